/- pithlaw14's stays walked: true, as long as nobody wrote. No condition. -/
import Derived.Test.YtgbladpoglhleaaGreatDoorMc
namespace Go.Proofs.YtgbladpoglhleaaGreatDoor
open Go.RowKit
theorem LRw.cell {w : World} {lo hi : Nat} {e : TypeId} {sz : Nat} {v : Value} {n : Nat} {cells : List Value} (h : LRw w lo hi e sz v n cells) :
    ∃ g cap, v = .slice (some ⟨g, 0, none⟩) n cap ∧ lo ≤ g ∧ g < hi ∧ g < w.heap.size ∧ n + 1 ≤ cap ∧ cap ≤ 9223372036854775807 ∧ ∀ j u, cells[j]? = some u → w.cell? ⟨g, j, none⟩ = some u := by
  obtain ⟨g, cap, rfl, h1, h2, h3⟩ := h
  refine ⟨g, cap, rfl, h1, h2, (h3.lt g rfl).2, (own_cap h3).1, (own_cap h3).2, fun j u hj => ?_⟩
  have := h3.cells (g := g) rfl j u hj
  rw [addr_add] at this
  simpa using this
theorem LRw.sl_int {w : World} {lo hi : Nat} {v : Value} {xs : List Int} {t : List Value} (h : LRw w lo hi 3 1 v xs.length (ints xs ++ t)) : Sl kint w (fun q => lo ≤ q ∧ q < hi) v xs := by
  obtain ⟨g, cap, rfl, h1, h2, h3, h4, h5, h6⟩ := h.cell
  refine ⟨_, cap, rfl, by omega, h5, fun _ => ⟨g, 0, rfl, ⟨h1, h2⟩, h3, fun i x hx => ⟨_, rfl, fun j u hu => ?_⟩⟩⟩
  have hi := (List.getElem?_eq_some_iff.1 hx).1
  cases j with
  | succ j => simp at hu
  | zero =>
    have := h6 i u (by rw [List.getElem?_append_left (by rw [ints_length]; exact hi)]; simp only [ints, List.getElem?_map, hx]; simpa using hu)
    simpa [kint, flat] using this
theorem infoCells_get {xs : List Info} {i j : Nat} {x : Info} (hx : xs[i]? = some x) (hj : j < 3) : (infoCells xs)[i * 3 + j]? = (infoRow x)[j]? := by
  obtain ⟨hi, rfl⟩ := List.getElem?_eq_some_iff.1 hx
  rw [← infoCells_at hi, List.getElem?_take, if_pos hj, List.getElem?_drop]
theorem LRw.sl_info {w : World} {lo hi : Nat} {v : Value} {xs : List Info} {t : List Value} (h : LRw w lo hi 54 3 v xs.length (infoCells xs ++ t)) : Sl kinfo w (fun q => lo ≤ q ∧ q < hi) v xs := by
  obtain ⟨g, cap, rfl, h1, h2, h3, h4, h5, h6⟩ := h.cell
  refine ⟨_, cap, rfl, by omega, h5, fun _ => ⟨g, 0, rfl, ⟨h1, h2⟩, h3, fun i x hx => ⟨_, rfl, fun j u hu => ?_⟩⟩⟩
  have hi := (List.getElem?_eq_some_iff.1 hx).1
  have hj : j < 3 := (List.getElem?_eq_some_iff.1 hu).1
  have := h6 (i * 3 + j) u (by
    rw [List.getElem?_append_left (by rw [infoCells_length]; omega), infoCells_get hx hj]
    exact hu)
  simpa [kinfo, flat] using this
/-- A manifest in new memory, with marks behind its lists. -/
def LentV (w : World) (lo hi : Nat) (v : Value) (m : Man) : Prop :=
  ∃ v1 v2 v3 s1 s2, v = .agg #[.int .i64 m.Gen, .int .i64 m.N, v1, v2, v3] ∧ lo ≤ s1 ∧ s1 ≤ s2 ∧ s2 ≤ hi ∧ LRw w lo s1 3 1 v1 m.Cuts.length (ints m.Cuts ++ [.int .i64 201]) ∧
    LRw w s1 s2 54 3 v2 m.Shards.length (infoCells m.Shards ++ [.int .i64 201, .int .u32 0, .int .i64 0]) ∧ LRw w s2 hi 3 1 v3 m.Degrees.length (ints m.Degrees ++ [.int .i64 201])
theorem LentV.keep {w w' : World} {lo hi : Nat} {v : Value} {m : Man} (h : LentV w lo hi v m) (hm : ∀ k, lo ≤ k → k < hi → w'.heap[k]? = w.heap[k]?) : LentV w' lo hi v m := by
  obtain ⟨v1, v2, v3, s1, s2, rfl, h0, h1, h2, h3, h4, h5⟩ := h
  exact ⟨v1, v2, v3, s1, s2, rfl, h0, h1, h2, h3.keep fun k a b => hm k a (by omega), h4.keep fun k a b => hm k (by omega) (by omega), h5.keep fun k a b => hm k (by omega) b⟩
theorem LentV.man {w : World} {lo hi : Nat} {v : Value} {m : Man} (h : LentV w lo hi v m) : ManV w (fun q => lo ≤ q ∧ q < hi) v m := by
  obtain ⟨v1, v2, v3, s1, s2, rfl, h0, h1, h2, h3, h4, h5⟩ := h
  exact ⟨v1, v2, v3, rfl, h3.sl_int.mono fun k hk => ⟨hk.1, by omega⟩, h4.sl_info.mono fun k hk => ⟨by omega, by omega⟩, h5.sl_int.mono fun k hk => ⟨by omega, hk.2⟩⟩
theorem LentPost.lent {w w' : World} {m : Man} {e : Ending} (h : LentPost w m e w') : ∃ v, e = .returned v ∧ LentV w' w.heap.size w'.heap.size v m ∧ Below w.heap.size w w' := by
  obtain ⟨v1, v2, v3, s1, s2, rfl, h1, h2, h3, h4, h5, hb⟩ := h
  obtain ⟨g, cap, e, a, b, _⟩ := id h3
  exact ⟨_, rfl, ⟨v1, v2, v3, s1, s2, rfl, by omega, h1, h2, h3, h4, h5⟩, hb⟩
set_option maxHeartbeats 4000000 in
set_option maxRecDepth 100000 in
theorem stays_any {w : World} {lo hi : Nat} {ok : Nat → Prop} {v v2 : Value} {m : Man} (hx : LentV w lo hi v m) (hy : ManV w ok v2 m) (hl1 : m.Cuts.length ≤ 2000) (hl2 : m.Shards.length ≤ 2000) (hl3 : m.Degrees.length ≤ 5000) :
    Calls Tryz.prog 22 #[v, v2] w fun e w' => e = .returned (.bool true) ∧ Below w.heap.size w w' := by
  have hman := hx.man
  obtain ⟨u1, u2, u3, s1, s2, rfl, _, _, _, h3, h4, h5⟩ := hx
  obtain ⟨a, b, c, rfl, k1, k2, k3⟩ := id hy
  obtain ⟨Aa, ca, rfl, _⟩ := k1.slice
  obtain ⟨Ab, cb, rfl, _⟩ := k2.slice
  obtain ⟨Ac, cc, rfl, _⟩ := k3.slice
  obtain ⟨g1, c1, rfl, _, _, _, p1, q1, r1⟩ := h3.cell
  obtain ⟨g2, c2, rfl, _, _, _, p2, q2, r2⟩ := h4.cell
  obtain ⟨g3, c3, rfl, _, _, _, p3, q3, r3⟩ := h5.cell
  have e1 := r1 m.Cuts.length (.int .i64 201) (by rw [List.getElem?_append_right (by rw [ints_length]; exact Nat.le_refl _), ints_length]; simp)
  have e2 := r2 (m.Shards.length * 3) (.int .i64 201) (by rw [List.getElem?_append_right (by rw [infoCells_length]; exact Nat.le_refl _), infoCells_length]; simp)
  have e3 := r3 m.Degrees.length (.int .i64 201) (by rw [List.getElem?_append_right (by rw [ints_length]; exact Nat.le_refl _), ints_length]; simp)
  have hb : ∀ n, Below w.heap.size w (((w.alloc (.cells #[.int .i64 m.Gen, .int .i64 m.N, .slice (some ⟨g1, 0, none⟩) m.Cuts.length c1, .slice (some ⟨g2, 0, none⟩) m.Shards.length c2, .slice (some ⟨g3, 0, none⟩) m.Degrees.length c3] 33)).alloc (.cells #[.int .i64 m.Gen, .int .i64 m.N, .slice Aa m.Cuts.length ca, .slice Ab m.Shards.length cb, .slice Ac m.Degrees.length cc] 33)).drewN n) := fun n => bdrew (((Below.refl _ w).alloc (Nat.le_refl _) _).alloc (by simp) _) n
  have hsame := Aside.mk (SameManifest_any (hman.below (hb 0)) (hy.below (hb 0)))
  have HF : Aside (∀ w1, Below ((w.alloc (.cells #[.int .i64 m.Gen, .int .i64 m.N, .slice (some ⟨g1, 0, none⟩) m.Cuts.length c1, .slice (some ⟨g2, 0, none⟩) m.Shards.length c2, .slice (some ⟨g3, 0, none⟩) m.Degrees.length c3] 33)).alloc (.cells #[.int .i64 m.Gen, .int .i64 m.N, .slice Aa m.Cuts.length ca, .slice Ab m.Shards.length cb, .slice Ac m.Degrees.length cc] 33)).heap.size ((w.alloc (.cells #[.int .i64 m.Gen, .int .i64 m.N, .slice (some ⟨g1, 0, none⟩) m.Cuts.length c1, .slice (some ⟨g2, 0, none⟩) m.Shards.length c2, .slice (some ⟨g3, 0, none⟩) m.Degrees.length c3] 33)).alloc (.cells #[.int .i64 m.Gen, .int .i64 m.N, .slice Aa m.Cuts.length ca, .slice Ab m.Shards.length cb, .slice Ac m.Degrees.length cc] 33)) w1 →
      w1.cell? ⟨w.heap.size, 2, none⟩ = some (.slice (some ⟨g1, 0, none⟩) m.Cuts.length c1) ∧ w1.cell? ⟨w.heap.size, 3, none⟩ = some (.slice (some ⟨g2, 0, none⟩) m.Shards.length c2) ∧ w1.cell? ⟨w.heap.size, 4, none⟩ = some (.slice (some ⟨g3, 0, none⟩) m.Degrees.length c3) ∧
      w1.cell? ⟨w.heap.size + 1, 2, none⟩ = some (.slice Aa m.Cuts.length ca) ∧ w1.cell? ⟨w.heap.size + 1, 3, none⟩ = some (.slice Ab m.Shards.length cb) ∧ w1.cell? ⟨w.heap.size + 1, 4, none⟩ = some (.slice Ac m.Degrees.length cc) ∧
      w1.cell? ⟨g1, m.Cuts.length, none⟩ = some (.int .i64 201) ∧ w1.cell? ⟨g2, m.Shards.length * 3, none⟩ = some (.int .i64 201) ∧ w1.cell? ⟨g3, m.Degrees.length, none⟩ = some (.int .i64 201) ∧ Below w.heap.size w w1) := ⟨fun w1 B => by
    have b2 := hb 0
    exact ⟨bcell B (by simp [go_sem]), bcell B (by simp [go_sem]), bcell B (by simp [go_sem]), bcell B (by simp [go_sem]), bcell B (by simp [go_sem]), bcell B (by simp [go_sem]), bcell B (bcell b2 e1), bcell B (bcell b2 e2), bcell B (bcell b2 e3), bthen b2 b2.size B⟩⟩
  clear e1 e2 e3
  clear hman hy k1 k2 k3 h3 h4 h5 r1 r2 r3
  go_enter Tryz.func22, Tryz.ntmps22
  go_wp2_with fail
  refine hsame.out.mono ?_
  rintro e w1 ⟨rfl, B1⟩
  rw [eqB_yes rfl]
  obtain ⟨x2, x3, x4, y2, y3, y4, t1, t2, t3, hbw⟩ := HF.out w1 B1
  have HB := Aside.mk hbw
  clear HF hsame B1 hbw hb
  go_wp2
  go_ret
  exact ⟨rfl, HB.out⟩
end Go.Proofs.YtgbladpoglhleaaGreatDoor
