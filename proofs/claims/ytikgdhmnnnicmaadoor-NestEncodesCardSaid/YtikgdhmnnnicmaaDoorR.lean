/- A list of lists of whole numbers of which each is the call's own: one of them is made longer, or exchanged. No condition. -/
import Derived.Test.YtikgdhmnnnicmaaDoorB
import Derived.Test.YtikgdhmnnnicmaaDoorShelf
import Derived.Sort.OwnSortedInts
import Derived.Laws.AppendOwnNone
namespace Go.Proofs.YtikgdhmnnnicmaaDoor
open Go.RowKit
theorem Tryd.info3 : (Tryd.prog.info? 3).map (fun i => (i.zero, i.size, i.bytes)) = some (some (.int .i64 0), 1, 8) := by kernel_rfl
theorem Tryd.info23 : (Tryd.prog.info? 48).map (fun i => (i.zero, i.size, i.bytes)) = some (some (.slice none 0 0), 1, 24) := by kernel_rfl
def ints (xs : List Int) : List Value := xs.map (Value.int .i64)
theorem ints_length (xs : List Int) : (ints xs).length = xs.length := by simp [ints]
/-- An int row of the call's own, as the base has it. -/
theorem own_ints {w : World} {B : Nat} {v : Value} {xs : List Int} (h : w.ownsRow B 3 1 v xs.length (ints xs)) : Own kint 3 w B v xs := by
  refine ⟨ints xs, h, fun i x hx => ?_⟩
  have hi := (List.getElem?_eq_some_iff.1 hx).1
  show ((ints xs).drop (i * 1)).take 1 = [.int .i64 x]
  refine List.ext_getElem? fun j => ?_
  rw [List.getElem?_take]
  rcases j with _ | j
  · simp [ints, hx]
  · simp
theorem ints_own {w : World} {B : Nat} {v : Value} {xs : List Int} (h : Own kint 3 w B v xs) : w.ownsRow B 3 1 v xs.length (ints xs) := by
  obtain ⟨cells, h1, h2⟩ := h
  have : cells = ints xs := by
    have hl := h1.1
    refine List.ext_getElem? fun j => ?_
    rcases Nat.lt_or_ge j xs.length with hj | hj
    · have h3 := h2 j xs[j] (List.getElem?_eq_getElem hj)
      have h4 : ((cells.drop (j * 1)).take 1)[0]? = some (.int .i64 xs[j]) := by
        have h5 : (cells.drop (j * 1)).take 1 = [.int .i64 xs[j]] := h3
        rw [h5]; rfl
      rw [List.getElem?_take, if_pos (by decide), List.getElem?_drop] at h4
      simpa [ints, hj] using h4
    · rw [List.getElem?_eq_none (by rw [hl]; simpa [kint, flat] using hj), List.getElem?_eq_none (by rw [ints_length]; exact hj)]
  rw [← this]
  exact h1

/-- Block tb holds the slices rows, each of which owns its row from block B on, no two the same; they read as xss. -/
structure Rows (w : World) (B tb : Nat) (rows : List Value) (xss : List (List Int)) : Prop where
  blk : w.heap[tb]? = some (.cells rows.toArray 48 (0, 0))
  len : rows.length = xss.length
  lt : tb < B
  own : ∀ (i : Nat) v xs, rows[i]? = some v → xss[i]? = some xs → w.ownsRow B 3 1 v xs.length (ints xs)
  apart : ∀ (i j : Nat) vi vj k, rows[i]? = some vi → rows[j]? = some vj → vi.ownBlock = some k → vj.ownBlock = some k → i = j
section
variable {w w' w1 : World} {B tb : Nat} {rows : List Value} {xss : List (List Int)}
theorem ownsRow_move {base : Nat} {e : TypeId} {size n : Nat} {v : Value} {xs : List Value} (h : w.ownsRow base e size v n xs) (hm : ∀ k, v.ownBlock = some k → w1.heap[k]? = w.heap[k]?) : w1.ownsRow base e size v n xs := by
  refine ⟨h.1, ?_⟩
  rcases h.2 with hn | ⟨g, cap, cur, rfl, hb, hg, h1⟩
  · exact .inl hn
  · exact .inr ⟨g, cap, cur, rfl, hb, (hm g (by simp [Value.ownBlock])).trans hg, h1⟩
theorem Rows.kept (h : Rows w B tb rows xss) (ht : w'.heap[tb]? = w.heap[tb]?) (hk : ∀ k, B ≤ k → k < w.heap.size → w'.heap[k]? = w.heap[k]?) : Rows w' B tb rows xss where
  blk := ht.trans h.blk
  len := h.len
  lt := h.lt
  own i v xs h1 h2 := ownsRow_move (h.own i v xs h1 h2) fun k e => hk k ((h.own i v xs h1 h2).lt k e).1 ((h.own i v xs h1 h2).lt k e).2
  apart := h.apart
theorem Rows.below (h : Rows w B tb rows xss) (hb : Below w.heap.size w w') : Rows w' B tb rows xss := h.kept (hb.block _ (blk_lt h.blk)) fun k _ hk => hb.block k hk
theorem Rows.at (h : Rows w B tb rows xss) (i : Nat) (hi : i < xss.length) : ∃ v, rows[i]? = some v ∧ w.cell? ⟨tb, i, none⟩ = some v ∧ w.frozen? ⟨tb, i, none⟩ = false ∧ w.ownsRow B 3 1 v xss[i].length (ints xss[i]) := by
  have hr : i < rows.length := by rw [h.len]; exact hi
  refine ⟨rows[i], List.getElem?_eq_getElem hr, ?_, ?_, h.own i _ _ (List.getElem?_eq_getElem hr) (List.getElem?_eq_getElem hi)⟩
  · rw [cell_of_row w tb i rows.toArray _ (0, 0) h.blk]; simp [hr]
  · simp [World.frozen?, h.blk]
/-- The i-th list is exchanged for one that owns a row of its own, or the row that the i-th had. -/
theorem Rows.set (h : Rows w B tb rows xss) {i : Nat} {v v1 : Value} {ys : List Int} (hi : rows[i]? = some v) (ho : w1.ownsRow B 3 1 v1 ys.length (ints ys)) (ht : w1.heap[tb]? = w.heap[tb]?)
    (hk : ∀ k, B ≤ k → k < w.heap.size → some k ≠ v.ownBlock → w1.heap[k]? = w.heap[k]?) (hat : ∀ k, v1.ownBlock = some k → v.ownBlock = some k ∨ w.heap.size ≤ k) :
    Rows (w1.setCell ⟨tb, i, none⟩ v1) B tb (rows.set i v1) (xss.set i ys) := by
  have hir : i < rows.length := (List.getElem?_eq_some_iff.1 hi).1
  have hst : ∀ k, k ≠ tb → (w1.setCell ⟨tb, i, none⟩ v1).heap[k]? = w1.heap[k]? := fun k hk => Below.heap_setCell w1 ⟨tb, i, none⟩ v1 k hk
  have hlt := h.lt
  refine ⟨?_, by simp [h.len], h.lt, ?_, ?_⟩
  · simp [World.setCell, Array.getElem?_modify, ht, h.blk]
  · intro j u xs hj hx
    by_cases hij : i = j
    · subst hij
      rw [List.getElem?_set_self hir] at hj
      rw [List.getElem?_set_self (by rw [← h.len]; exact hir)] at hx
      cases hj; cases hx
      exact ownsRow_move ho fun k e => hst k (by have := (ho.lt k e).1; omega)
    · rw [List.getElem?_set_ne hij] at hj hx
      have h1 := h.own j u xs hj hx
      refine ownsRow_move h1 fun k e => (hst k (by have := (h1.lt k e).1; omega)).trans (hk k (h1.lt k e).1 (h1.lt k e).2 fun e' => hij (h.apart i j v u k hi hj e'.symm e))
  · intro a b va vb k ha hb hka hkb
    have key : ∀ j u, i ≠ j → rows[j]? = some u → u.ownBlock = some k → v1.ownBlock = some k → False := fun j u hij hj hu hv => by
      obtain ⟨xs, hx⟩ : ∃ xs, xss[j]? = some xs := ⟨_, List.getElem?_eq_getElem (by rw [← h.len]; exact (List.getElem?_eq_some_iff.1 hj).1)⟩
      rcases hat k hv with e | e
      · exact hij (h.apart i j v u k hi hj e hu)
      · have := ((h.own j u xs hj hx).lt k hu).2
        omega
    by_cases h1 : i = a <;> by_cases h2 : i = b
    · omega
    · subst h1
      rw [List.getElem?_set_self hir] at ha; cases ha
      rw [List.getElem?_set_ne h2] at hb
      exact (key b vb h2 hb hkb hka).elim
    · subst h2
      rw [List.getElem?_set_self hir] at hb; cases hb
      rw [List.getElem?_set_ne h1] at ha
      exact (key a va h1 ha hka hkb).elim
    · rw [List.getElem?_set_ne h1] at ha
      rw [List.getElem?_set_ne h2] at hb
      exact h.apart a b va vb k ha hb hka hkb
/-- append(rows[i], x), x just boxed. -/
theorem Rows.app (h : Rows w B tb rows xss) (i : Nat) (hi : i < xss.length) (x : Int) (hl : (xss[i].length + 1) * 8 ≤ 140737488355328) (hB : B ≤ w.heap.size) :
    ∃ v v1 w1, rows[i]? = some v ∧ w.cell? ⟨tb, i, none⟩ = some v ∧
      (Builtin.append_ #[48, 48] 48 #[v, .slice (some ⟨w.heap.size, 0, none⟩) 1 1]).run Tryd.prog (w.alloc (.cells #[.int .i64 x] 3)) = .ok v1 w1 ∧
      Below B w w1 ∧ w1.cell? ⟨tb, i, none⟩ = some v ∧ w1.frozen? ⟨tb, i, none⟩ = false ∧ (∃ A n c, v1 = .slice A n c) ∧
      w.heap.size + 1 ≤ w1.heap.size ∧ Rows (w1.setCell ⟨tb, i, none⟩ v1) B tb (rows.set i v1) (xss.set i (xss[i] ++ [x])) := by
  obtain ⟨v, hv, hc, hf, ho⟩ := h.at i hi
  obtain ⟨i0, hi0, hz0, hz1, hz2⟩ := info_parts Tryd.info3
  have hlt := h.lt
  obtain ⟨v1, w1, hr, h2, h3, h4, h5⟩ := run_append_own_at (P := Tryd.prog) (w.alloc (.cells #[.int .i64 x] 3)) B 48 48 3 i0 (.int .i64 0) 1 8 Tryd.underlying48 hi0 hz0 hz1 hz2 rfl (by decide) v xss[i].length _ (ho.alloc _) ⟨w.heap.size, 0, none⟩ 1 1 [.int .i64 x] rfl
    (World.news_of_block (cs := #[.int .i64 x]) (t := 3) (fr := (0, 0)) (heap_alloc_new w _)) (by simp [Value.oneCell']) (by simp only [maxLen]; omega) (by omega) (by simp; omega)
  have hb : Below B w w1 := ((Below.refl B w).alloc hB _).grown h3 (by simp; omega) (fun k e => (ho.lt k e).1)
  have hkb : ∀ k, k < w.heap.size → some k ≠ v.ownBlock → w1.heap[k]? = w.heap[k]? := fun k hk hne => (h3.block k (by simp; omega) hne).trans (Below.heap_alloc w _ k hk)
  have htb : some tb ≠ v.ownBlock := fun e => by have := (ho.lt tb e.symm).1; omega
  have ht := hkb tb (by omega) htb
  refine ⟨v, v1, w1, hv, hc, hr, hb, (World.cell?_of_block ht).trans hc, (World.frozen?_of_block ht).trans hf, ?_, by have := h3.size; simpa using this, ?_⟩
  · rcases h2.2 with ⟨rfl, _⟩ | ⟨g, cap, cur, rfl, _⟩
    · exact ⟨_, _, _, rfl⟩
    · exact ⟨_, _, _, rfl⟩
  · refine h.set hv (ys := xss[i] ++ [x]) (by simpa [ints] using h2) ht (fun k _ hk hne => hkb k hk hne) fun k hk => ?_
    rcases h5 with h5 | h5
    · exact .inl (h5 ▸ hk)
    · rw [h5] at hk
      have : w.heap.size + 1 = k := by simpa using hk
      exact .inr (by omega)
theorem cell_blk {w : World} {g j : Nat} {cs : Array Value} {t : TypeId} {u : Value} (h : w.heap[g]? = some (.cells cs t (0, 0))) (hj : cs[j]? = some u) : w.cell? ⟨g, j, none⟩ = some u := by
  rw [cell_of_row w g j cs t (0, 0) h]; exact hj
/-- One list grows in place, in the midst of two blocks that stand: a structure's (below B) and a variable's (from B on). -/
theorem Rows.grow (h : Rows w B tb rows xss) {gb eb : Nat} {G E : Array Value} {tg te : TypeId} (hg : w.heap[gb]? = some (.cells G tg (0, 0))) (he : w.heap[eb]? = some (.cells E te (0, 0))) (hgB : gb < B) (hgt : gb ≠ tb) (heB : B ≤ eb)
    (hf : ∀ (j : Nat) u k, rows[j]? = some u → u.ownBlock = some k → k ≠ eb) (i : Nat) (hi : i < xss.length) (x : Int) (hl : (xss[i].length + 1) * 8 ≤ 140737488355328) :
    ∃ v0 v1 w1, w.cell? ⟨tb, i, none⟩ = some v0 ∧ (appSem #[48, 48] 48 #[v0, .slice (some ⟨w.heap.size, 0, none⟩) 1 1]).run Tryd.prog ((w.alloc (.cells #[.int .i64 x] 3)).drew) = .ok v1 w1 ∧
      w1.cell? ⟨tb, i, none⟩ = some v0 ∧ w1.frozen? ⟨tb, i, none⟩ = false ∧ (∃ A n c, v1 = .slice A n c) ∧ w1.heap[gb]? = some (.cells G tg (0, 0)) ∧ w1.heap[eb]? = some (.cells E te (0, 0)) ∧
      Rows (w1.setCell ⟨tb, i, none⟩ v1) B tb (rows.set i v1) (xss.set i (xss[i] ++ [x])) ∧ (w1.setCell ⟨tb, i, none⟩ v1).heap[gb]? = some (.cells G tg (0, 0)) ∧ (w1.setCell ⟨tb, i, none⟩ v1).heap[eb]? = some (.cells E te (0, 0)) ∧
      (∀ (j : Nat) u k, (rows.set i v1)[j]? = some u → u.ownBlock = some k → k ≠ eb) ∧ Below tb w (w1.setCell ⟨tb, i, none⟩ v1) ∧ (∀ k, k < B → k ≠ tb → (w1.setCell ⟨tb, i, none⟩ v1).heap[k]? = w.heap[k]?) := by
  have hltE := blk_lt he
  obtain ⟨v, hv, hc, hfz, ho⟩ := h.at i hi
  obtain ⟨i0, hi0, hz0, hz1, hz2⟩ := info_parts Tryd.info3
  have hlt := h.lt
  obtain ⟨v1, w1, hr, h2, h3, h4, h5⟩ := run_append_own_at (P := Tryd.prog) (w.alloc (.cells #[.int .i64 x] 3)).drew B 48 48 3 i0 (.int .i64 0) 1 8 Tryd.underlying48 hi0 hz0 hz1 hz2 rfl (by decide) v xss[i].length _ (ho.alloc _) ⟨w.heap.size, 0, none⟩ 1 1 [.int .i64 x] rfl
    (World.news_of_block (cs := #[.int .i64 x]) (t := 3) (fr := (0, 0)) (heap_alloc_new w _)) (by simp [Value.oneCell']) (by simp only [maxLen]; omega) (by omega) (by simp; omega)
  have hkb : ∀ k, k < w.heap.size → some k ≠ v.ownBlock → w1.heap[k]? = w.heap[k]? := fun k hk hne => (h3.block k (by simp; omega) hne).trans (Below.heap_alloc w _ k hk)
  have htb : some tb ≠ v.ownBlock := fun e => by have := (ho.lt tb e.symm).1; omega
  have hgb : some gb ≠ v.ownBlock := fun e => by have := (ho.lt gb e.symm).1; omega
  have heb : some eb ≠ v.ownBlock := fun e => hf i v eb hv e.symm rfl
  have ht := hkb tb (by omega) htb
  have hst : ∀ k, k ≠ tb → (w1.setCell ⟨tb, i, none⟩ v1).heap[k]? = w1.heap[k]? := fun k hk => Below.heap_setCell w1 ⟨tb, i, none⟩ v1 k hk
  have hsz : w.heap.size + 1 ≤ w1.heap.size := by have := h3.size; simpa using this
  have hat : ∀ k, v1.ownBlock = some k → v.ownBlock = some k ∨ w.heap.size ≤ k := fun k hk => by
    rcases h5 with h5 | h5
    · exact .inl (h5 ▸ hk)
    · rw [h5] at hk
      have : w.heap.size + 1 = k := by simpa using hk
      exact .inr (by omega)
  have hB1 : ∀ k, k < B → some k ≠ v.ownBlock := fun k hk e => by have := (ho.lt k e.symm).1; omega
  refine ⟨v, v1, w1, hc, hr, (World.cell?_of_block ht).trans hc, (World.frozen?_of_block ht).trans hfz, ?_, (hkb gb (by omega) hgb).trans hg, (hkb eb hltE heb).trans he,
    h.set hv (ys := xss[i] ++ [x]) (by simpa [ints] using h2) ht (fun k _ hk hne => hkb k hk hne) hat, (hst gb hgt).trans ((hkb gb (by omega) hgb).trans hg), (hst eb (by omega)).trans ((hkb eb hltE heb).trans he), ?_, ?_, ?_⟩
  · rcases h2.2 with ⟨rfl, _⟩ | ⟨g, cap, cur, rfl, _⟩
    · exact ⟨_, _, _, rfl⟩
    · exact ⟨_, _, _, rfl⟩
  · intro j u k hj hk
    by_cases hij : i = j
    · subst hij
      rw [List.getElem?_set_self (List.getElem?_eq_some_iff.1 hv).1] at hj
      cases hj
      rcases hat k hk with e | e
      · exact hf i v k hv e
      · omega
    · rw [List.getElem?_set_ne hij] at hj
      exact hf j u k hj hk
  · refine ⟨h3.os, h3.tape, h3.output, by have := h3.size; simp [World.setCell] at this ⊢; omega, fun k hk => (hst k (by omega)).trans (hkb k (by omega) (hB1 k (by omega)))⟩
  · exact fun k hk hkt => (hst k hkt).trans (hkb k (by omega) (hB1 k hk))
/-- The i-th list is written over in place. -/
theorem Rows.exch (h : Rows w B tb rows xss) {i : Nat} {v : Value} {ys : List Int} (hi : rows[i]? = some v) (ho : w1.ownsRow B 3 1 v ys.length (ints ys)) (ht : w1.heap[tb]? = w.heap[tb]?)
    (hk : ∀ k, B ≤ k → k < w.heap.size → some k ≠ v.ownBlock → w1.heap[k]? = w.heap[k]?) : Rows w1 B tb rows (xss.set i ys) := by
  have hir : i < rows.length := (List.getElem?_eq_some_iff.1 hi).1
  refine ⟨ht.trans h.blk, by simp [h.len], h.lt, ?_, h.apart⟩
  intro j u xs hj hx
  by_cases hij : i = j
  · subst hij
    rw [List.getElem?_set_self (by rw [← h.len]; exact hir)] at hx
    rw [hi] at hj
    cases hj; cases hx
    exact ho
  · rw [List.getElem?_set_ne hij] at hx
    have h1 := h.own j u xs hj hx
    exact ownsRow_move h1 fun k e => hk k (h1.lt k e).1 (h1.lt k e).2 fun e' => hij (h.apart i j v u k hi hj e'.symm e)
/-- append(rows[i], rows[j]...). -/
theorem Rows.cat (h : Rows w B tb rows xss) (i j : Nat) (hi : i < xss.length) (hj : j < xss.length) (hl : (xss[i].length + xss[j].length) * 8 ≤ 140737488355328) (hB : B ≤ w.heap.size) :
    ∃ v0 u0 v1 w1, w.cell? ⟨tb, i, none⟩ = some v0 ∧ w.cell? ⟨tb, j, none⟩ = some u0 ∧ (appSem #[48, 48] 48 #[v0, u0]).run Tryd.prog w.drew = .ok v1 w1 ∧
      w1.cell? ⟨tb, i, none⟩ = some v0 ∧ w1.frozen? ⟨tb, i, none⟩ = false ∧ (∃ A n c, v1 = .slice A n c) ∧ rows[i]? = some v0 ∧ w.grownBy w1 v0.ownBlock ∧
      Rows (w1.setCell ⟨tb, i, none⟩ v1) B tb (rows.set i v1) (xss.set i (xss[i] ++ xss[j])) ∧ (∀ k, v1.ownBlock = some k → v0.ownBlock = some k ∨ w.heap.size ≤ k) := by
  obtain ⟨v, hv, hc, hfz, ho⟩ := h.at i hi
  obtain ⟨u, hu, hcu, _, hou⟩ := h.at j hj
  obtain ⟨i0, hi0, hz0, hz1, hz2⟩ := info_parts Tryd.info3
  have hlt := h.lt
  have htb : some tb ≠ v.ownBlock := fun e => by have := (ho.lt tb e.symm).1; omega
  have htl := blk_lt h.blk
  have fin : ∀ v1 w1, (appSem #[48, 48] 48 #[v, u]).run Tryd.prog w.drew = .ok v1 w1 → w1.ownsRow B 3 1 v1 (xss[i].length + xss[j].length) (ints xss[i] ++ ints xss[j]) → w.grownBy w1 v.ownBlock → (v1.ownBlock = v.ownBlock ∨ v1.ownBlock = some w.heap.size) →
      ∃ v0 u0 v1 w1, w.cell? ⟨tb, i, none⟩ = some v0 ∧ w.cell? ⟨tb, j, none⟩ = some u0 ∧ (appSem #[48, 48] 48 #[v0, u0]).run Tryd.prog w.drew = .ok v1 w1 ∧
      w1.cell? ⟨tb, i, none⟩ = some v0 ∧ w1.frozen? ⟨tb, i, none⟩ = false ∧ (∃ A n c, v1 = .slice A n c) ∧ rows[i]? = some v0 ∧ w.grownBy w1 v0.ownBlock ∧
      Rows (w1.setCell ⟨tb, i, none⟩ v1) B tb (rows.set i v1) (xss.set i (xss[i] ++ xss[j])) ∧ (∀ k, v1.ownBlock = some k → v0.ownBlock = some k ∨ w.heap.size ≤ k) := by
    intro v1 w1 hr h2 h3 h5
    have ht := h3.block tb htl htb
    have hat : ∀ k, v1.ownBlock = some k → v.ownBlock = some k ∨ w.heap.size ≤ k := fun k hk => by
      rcases h5 with h5 | h5
      · exact .inl (h5 ▸ hk)
      · rw [h5] at hk
        have : w.heap.size = k := by simpa using hk
        exact .inr (by omega)
    refine ⟨v, u, v1, w1, hc, hcu, hr, (World.cell?_of_block ht).trans hc, (World.frozen?_of_block ht).trans hfz, ?_, hv, h3, h.set hv (ys := xss[i] ++ xss[j]) (by simpa [ints] using h2) ht (fun k _ hk hne => h3.block k hk hne) hat, hat⟩
    rcases h2.2 with ⟨rfl, _⟩ | ⟨g, cap, cur, rfl, _⟩
    · exact ⟨_, _, _, rfl⟩
    · exact ⟨_, _, _, rfl⟩
  rcases hou.2 with ⟨rfl, hn⟩ | ⟨g, cap, cur, rfl, hb, hg, h1, h2, h3, h4⟩
  · have hr := run_append_owned_none (P := Tryd.prog) (w := w.drew) B 48 48 3 i0 1 Tryd.underlying48 hi0 v xss[i].length (ints xss[i]) ho
    have h0 : xss[j] = [] := List.eq_nil_of_length_eq_zero hn
    exact fin v w.drew hr (by rw [h0]; simpa [ints] using (show w.drew.ownsRow B 3 1 v xss[i].length (ints xss[i]) from ho)) ⟨rfl, rfl, rfl, Nat.le_refl _, fun _ _ _ => rfl⟩ (.inl rfl)
  · obtain ⟨v1, w1, hr, h2, h3, h4, h5⟩ := run_append_own_at (P := Tryd.prog) w.drew B 48 48 3 i0 (.int .i64 0) 1 8 Tryd.underlying48 hi0 hz0 hz1 hz2 rfl (by decide) v xss[i].length _ ho ⟨g, 0, none⟩ xss[j].length cap (ints xss[j]) (by simp [ints])
      (fun q x hq => hou.cells (g := g) rfl q x hq) (by simp [ints, Value.oneCell']) (by simp only [maxLen]; omega) hl hB
    exact fin v1 w1 hr h2 ⟨h3.os, h3.tape, h3.output, h3.size, h3.block⟩ h5
end
/-- The sorted list. -/
def sorted (xs : List Int) : List Int := xs.mergeSort fun x y => decide (x ≤ y)
theorem sorted_length (xs : List Int) : (sorted xs).length = xs.length := List.length_mergeSort _
/-- slices.Sort of a row of the call's own. -/
theorem sort_own {w : World} {B : Nat} {v : Value} {xs : List Int} (h : w.ownsRow B 3 1 v xs.length (ints xs)) (hl : xs.length < 4611686018427387904) :
    Calls Tryd.prog 37 #[v] w fun e w' => e = .returned (.tuple #[]) ∧ w'.ownsRow B 3 1 v (sorted xs).length (ints (sorted xs)) ∧ w.grownBy w' v.ownBlock := by
  rcases h.2 with ⟨rfl, hn⟩ | ⟨g, cap, cur, rfl, hb, hg, h1, h2, h3, h4⟩
  · obtain rfl := List.eq_nil_of_length_eq_zero hn
    refine (Tryd.slices_Sort_int_none none 0 w).mono ?_
    rintro e w' ⟨rfl, rfl⟩
    refine ⟨rfl, ?_, ⟨rfl, rfl, rfl, Nat.le_refl _, fun _ _ _ => rfl⟩⟩
    have : sorted [] = [] := by simp [sorted]
    rw [this]
    exact World.ownsRow_nil _ _ _ _
  · have hH : Sort.Holds (Value.int .i64) w g 0 xs.toArray := by
      intro j hj
      have hj' : j < xs.length := by simpa using hj
      refine ⟨?_, by simp [World.frozen?, hg]⟩
      have hc := h.cells (g := g) rfl j (.int .i64 xs[j]) (by simp [ints, hj'])
      rw [addr_add] at hc
      simpa [hj'] using hc
    refine (Tryd.slices_Sort_int g 0 cap xs w hH (blk_lt hg) hl).mono ?_
    rintro e w' ⟨rfl, n, os, rfl⟩
    refine ⟨rfl, ?_, grownBy_sortedI _⟩
    have := ownsRow_sortedI (os := os) (n := n) (ss := xs) (ts := sorted xs) (sorted_length xs) hb hg h1 h2 (by simpa using h3)
    rw [sorted_length]
    exact this
end Go.Proofs.YtikgdhmnnnicmaaDoor
