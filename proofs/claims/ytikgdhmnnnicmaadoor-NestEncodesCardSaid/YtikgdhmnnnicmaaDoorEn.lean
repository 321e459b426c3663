/- nest.Encode walked. No condition. -/
import Derived.Test.YtikgdhmnnnicmaaDoorBl
namespace Go.Proofs.YtikgdhmnnnicmaaDoor
open Go.RowKit Go.Shelf
attribute [local go_sem] Oper.semAt_some
def nodeB (x : Node) : List UInt8 := fours [x.K, x.Least, x.Size, x.Parent + 1]
def rowB (c : List Node) : List UInt8 := c.flatMap nodeB
def chunkL (l : List Node) (k : Nat) : List Node := (l.drop (50 * k)).take 50
def dataF (l : List Node) : List (List UInt8) := (List.range (cnt l.length)).map fun k => rowB (chunkL l k)
def headF (gen n : Int) (m : Nat) : List UInt8 := fours [gen, n, m]
def encOk (gen n : Int) (l : List Node) : Bool := decide (1 ≤ gen ∧ gen ≤ 2147483647 ∧ 0 ≤ n ∧ n ≤ 16777216) && mayF n l
theorem foldlM_each {σ : Type} (f : σ → Nat → Option σ) : ∀ (is : List Nat) (a b : σ), is.foldlM f a = some b → ∀ i ∈ is, ∃ s s', f s i = some s' := by
  intro is
  induction is with
  | nil => intro a b _ i hi; simp at hi
  | cons k is ih =>
    intro a b h i hi
    rw [List.foldlM_cons] at h
    obtain ⟨c, h1, h2⟩ := Option.bind_eq_some_iff.1 h
    rcases List.mem_cons.1 hi with rfl | hi
    · exact ⟨a, c, h1⟩
    · exact ih c b h2 i hi
/-- What may makes sure of. -/
theorem may_el {n : Int} {l : List Node} (h : mayF n l = true) : ∀ x ∈ l, (0 ≤ x.K ∧ x.K < 16777216) ∧ (0 ≤ x.Least ∧ x.Least < n) ∧ (1 ≤ x.Size ∧ x.Size ≤ n) ∧ -1 ≤ x.Parent ∧ x.Parent < l.length := by
  intro x hx
  obtain ⟨i, hi, rfl⟩ := List.mem_iff_getElem.1 hx
  unfold mayF at h
  split at h
  · rename_i a ha
    obtain ⟨s, s', hs⟩ := foldlM_each _ _ _ _ ha i (by simpa using hi)
    have hgd : l.getD i dN = l[i] := by rw [List.getD_eq_getElem?_getD, List.getElem?_eq_getElem hi]; rfl
    unfold mayStep at hs
    rw [hgd] at hs
    split at hs
    · cases hs
    · rename_i hA
      unfold badA at hA
      simp only [Bool.or_eq_true, decide_eq_true_eq] at hA
      split at hs
      · cases hs
      · split at hs
        · rename_i hp
          refine ⟨by omega, by omega, by omega, by omega, by omega⟩
        · split at hs
          · cases hs
          · rename_i hC
            have := badC_in (Bool.eq_false_iff.2 hC)
            refine ⟨by omega, by omega, by omega, by omega, by omega⟩
  · cases h
theorem nodeB_length (x : Node) : (nodeB x).length = 16 := by unfold nodeB; rw [fours_length]; rfl
theorem rowB_length (c : List Node) : (rowB c).length = 16 * c.length := by
  induction c with
  | nil => rfl
  | cons x c ih => simp only [rowB, List.flatMap_cons, List.length_append, nodeB_length, List.length_cons] at *; omega
theorem rowB_take {c : List Node} {i : Nat} (hi : i < c.length) : rowB (c.take (i + 1)) = rowB (c.take i) ++ fours [c[i].K, c[i].Least, c[i].Size, c[i].Parent + 1] := by
  unfold rowB
  rw [take_snoc hi, List.flatMap_append]
  simp only [List.flatMap_cons, List.flatMap_nil, List.append_nil]
  rfl
theorem chunkL_length (l : List Node) (k : Nat) : (chunkL l k).length = min 50 (l.length - 50 * k) := by simp [chunkL]
def EncPost (w : World) (gen n : Int) (l : List Node) (e : Ending) (w' : World) : Prop :=
  (encOk gen n l = true → ∃ hv dv vs, e = .returned (.tuple #[hv, dv, .int .i64 0]) ∧ w'.ownsRow w.heap.size 5 1 hv (headF gen n l.length).length (u8s (headF gen n l.length)) ∧ BL w' w.heap.size dv vs (dataF l)) ∧
  (encOk gen n l = false → e = .returned (.tuple #[.slice none 0 0, .slice none 0 0, .int .i64 220])) ∧ Below w.heap.size w w'
theorem enc_no {w w' : World} {gen n : Int} {l : List Node} (h : encOk gen n l = false) (hb : Below w.heap.size w w') : EncPost w gen n l (.returned (.tuple #[.slice none 0 0, .slice none 0 0, .int .i64 220])) w' :=
  ⟨fun e => absurd (e.symm.trans h) (by decide), fun _ => rfl, hb⟩
theorem app_one_in {F : Fence} {nF : Nat} {P : Program} {ops : Array Oper} {rest : List Oper} {o : Oper} {a : Act} {Q : Exit → Act → World → Prop} {W : World} (B : Nat) (hgd : o.guard = none) (s x : Operand) (t e : TypeId) (z : Value) (size bytes : Nat)
    (ho : o.op = .call { callee := .builtin .append, args := #[s, x], argTypes := #[t, t] })
    (ht : P.underlying t = some (.slice e)) (hinfo : (P.info? e).map (fun i => (i.zero, i.size, i.bytes)) = some (some z, size, bytes)) (hz : z.cells.size = size) (hsz : 0 < size) (hb0 : 0 < bytes)
    (v : Value) (n : Nat) (xs ys : List Value) (hs : a.eval s = v) (hx : a.eval x = .slice (some ⟨W.heap.size, 0, none⟩) 1 1) (hy : ys.length = size) (h1 : ∀ u ∈ ys, u.oneCell' = true)
    (HO : W.ownsRow B e size v n xs) (hbase : B ≤ W.heap.size) (hl : (n + 1) * bytes ≤ 140737488355328)
    (h : ∀ v1 w1, w1.ownsRow B e size v1 (n + 1) (xs ++ ys) → W.grownBy w1 v.ownBlock → (v1.ownBlock = v.ownBlock ∨ v1.ownBlock = some (W.heap.size + 1)) → wpListIn F nF P ops Q rest (a.put o.dst v1) w1) :
    wpListIn F nF P ops Q (o :: rest) a (W.alloc (.cells ys.toArray e)) := by
  obtain ⟨i0, hi, hz0, hz1, hz2⟩ := info_parts hinfo
  have hlen : n + 1 ≤ 140737488355328 := Nat.le_trans (Nat.le_mul_of_pos_right _ hb0) hl
  refine wpListIn_append_own_at (W.alloc (.cells ys.toArray e)) hgd s x t ho B e i0 z size bytes ht hi hz0 hz1 hz2 hz hsz v n xs hs (HO.alloc _) ⟨W.heap.size, 0, none⟩ 1 1 ys hx (by omega)
    (World.news_of_block (cs := ys.toArray) (t := e) (fr := (0, 0)) (heap_alloc_new W _)) h1 (by simp only [maxLen]; omega) hl (by simp; omega) ?_
  intro v1 w1 hown hg _ hat
  exact h v1 w1 hown (World.grownBy.trans (World.grownBy_alloc W _ _) hg) (by simpa using hat)
theorem own_one {w : World} {B s n : Nat} {e : TypeId} {v : Value} {xs : List Value} (h : w.ownsRow B e s v n xs) : v.oneCell' = true := by
  rcases h.2 with ⟨rfl, _⟩ | ⟨g, cap, cur, rfl, _⟩ <;> rfl
theorem own_slice {w : World} {B s n : Nat} {e : TypeId} {v : Value} {xs : List Value} (h : w.ownsRow B e s v n xs) : ∃ A m c, v = .slice A m c := by
  rcases h.2 with ⟨rfl, _⟩ | ⟨g, cap, cur, rfl, _⟩ <;> exact ⟨_, _, _, rfl⟩
/-- What stands between two rows of Encode. -/
def EInv (w0 : World) (db hi : Nat) (l : List Node) (k : Nat) (W : World) : Prop :=
  ∃ dv vs, BL W hi dv vs ((List.range k).map fun j => rowB (chunkL l j)) ∧ W.heap[db]? = some (.cells #[dv] 29 (0, 0)) ∧ Below w0.heap.size w0 W ∧ hi ≤ W.heap.size
theorem EInv.own {w0 : World} {db hi : Nat} {l : List Node} (hd : db < hi) (h0 : w0.heap.size ≤ hi) : OwnFrom hi (EInv w0 db hi l) := by
  rintro k W W' row ⟨dv, vs, hb, hc, hbel, hsz⟩ hg hrow
  have hkeep : ∀ q (o : Obj), W.heap[q]? = some o → o.isCells = true → W'.heap[q]? = W.heap[q]? := fun q o hq ho => hg.block q (blk_lt hq) fun e => by
    obtain ⟨_, o', h1, h2⟩ := hrow q e.symm
    rw [hq] at h1
    cases h1
    rw [ho] at h2
    cases h2
  have hl : ∀ q, q < hi → W'.heap[q]? = W.heap[q]? := fun q hq => hg.block q (Nat.lt_of_lt_of_le hq hsz) fun e => by have := (hrow q e.symm).1; omega
  exact ⟨dv, vs, hb.move fun q c t _ hq _ => hkeep q _ hq rfl, (hl db hd).trans hc, ⟨hg.os.trans hbel.os, hg.tape.trans hbel.tape, hg.output.trans hbel.output, Nat.le_trans hbel.size hg.size, fun q hq => (hl q (by omega)).trans (hbel.block q hq)⟩, Nat.le_trans hsz hg.size⟩
/-- One row more. -/
theorem EInv.next {w0 W2 W7 w9 : World} {db hi : Nat} {l : List Node} {k : Nat} {dv dv1 v : Value} {vs : List Value} (hbl : BL W2 hi dv vs ((List.range k).map fun j => rowB (chunkL l j))) (hc : W2.heap[db]? = some (.cells #[dv] 29 (0, 0)))
    (hbel : Below w0.heap.size w0 W2) (hsz : hi ≤ W2.heap.size) (hd : db + 2 < hi) (h0 : w0.heap.size ≤ db) (hb7 : Below W2.heap.size W2 W7) (hv : W7.ownsRow W2.heap.size 5 1 v (rowB (chunkL l k)).length (u8s (rowB (chunkL l k))))
    (ho : w9.ownsRow hi 28 1 dv1 (((List.range k).map fun j => rowB (chunkL l j)).length + 1) (vs ++ [v])) (hg : W7.grownBy w9 dv.ownBlock) (hat : dv1.ownBlock = dv.ownBlock ∨ dv1.ownBlock = some (W7.heap.size + 1)) :
    w9.heap[db]? = some (.cells #[dv] 29 (0, 0)) ∧ EInv w0 db hi l (k + 1) (w9.setCell ⟨db, 0, none⟩ dv1) ∧ KeepsFrom hi W2 (w9.setCell ⟨db, 0, none⟩ dv1) ∧
      Stay (fun q => q = db + 1 ∨ q = db + 2) W2 (w9.setCell ⟨db, 0, none⟩ dv1) := by
  have hdv : ∀ q, dv.ownBlock = some q → hi ≤ q ∧ q < W2.heap.size := fun q e => hbl.own.lt q e
  have hlow : ∀ q, q < hi → w9.heap[q]? = W2.heap[q]? := fun q hq => (hg.block q (by have := hb7.size; omega) fun e => by have := (hdv q e.symm).1; omega).trans (hb7.block q (by omega))
  have hset : ∀ q, q ≠ db → (w9.setCell ⟨db, 0, none⟩ dv1).heap[q]? = w9.heap[q]? := fun q hq => Below.heap_setCell _ _ _ _ hq
  have hss : (w9.setCell ⟨db, 0, none⟩ dv1).heap.size = w9.heap.size := by simp
  have hdb : w9.heap[db]? = some (.cells #[dv] 29 (0, 0)) := (hlow db (by omega)).trans hc
  have hbl7 := hbl.below hb7
  have hv7 : W7.ownsRow hi 5 1 v (rowB (chunkL l k)).length (u8s (rowB (chunkL l k))) := hv.mono hsz
  have hsn := hbl7.snoc hv7 (fun q e e2 => by have := (hdv q e2).2; have := (hv.lt q e).1; omega) ho hg (by rcases hat with e | e; exact .inl e; exact .inr ⟨_, e, by omega⟩)
  have hs9 := Nat.le_trans hb7.size hg.size
  refine ⟨hdb, ⟨dv1, vs ++ [v], ?_, ?_, ?_, ?_⟩, ⟨?_, ?_⟩, ?_⟩
  · rw [List.range_succ, List.map_append]
    exact hsn.move fun q c t hq _ _ => hset q (by omega)
  · simp [World.setCell, Array.getElem?_modify, hdb]
  · refine ⟨hg.os.trans (hb7.os.trans hbel.os), hg.tape.trans (hb7.tape.trans hbel.tape), hg.output.trans (hb7.output.trans hbel.output), by rw [hss]; have := hbel.size; omega, fun q hq => ?_⟩
    exact (hset q (by omega)).trans ((hlow q (by omega)).trans (hbel.block q hq))
  · rw [hss]; omega
  · rw [hss]; exact hs9
  · intro q o hq ho' hn
    refine (hset q (by omega)).trans ((hg.block q (by have := blk_lt ho'; have := hb7.size; omega) fun e => ?_).trans ((hb7.block q (blk_lt ho')).trans ho'))
    obtain ⟨c, h1⟩ := ownsRow_cells hbl.own e.symm
    rw [ho'] at h1
    cases h1
    cases hn
  · intro q hq hlt
    exact ⟨(hset q (by rcases hq with h | h <;> omega)).trans ((hg.block q (by have := hb7.size; omega) fun e => by
      have := (hdv q e.symm).1
      rcases hq with h | h <;> omega).trans (hb7.block q hlt)), by rw [hss]; omega⟩
/-- four behind a row, of numbers that have just been laid. -/
theorem four_lit {W : World} {v : Value} {bs : List UInt8} (B : Nat) (hB : B ≤ W.heap.size) (HO : W.ownsRow B 5 1 v bs.length (u8s bs)) (ls : List Int) (n : Nat) (hn : ls.length = n) (hn2 : n ≤ 1000) (hr : ∀ x ∈ ls, 0 ≤ x ∧ x ≤ 4294967295) (hl : bs.length ≤ 549755813888) :
    Calls Tryd.prog 23 #[v, .slice (some ⟨W.heap.size, 0, none⟩) n n] (W.alloc (.cells (ints ls).toArray 3)) fun e w' => ∃ v', e = .returned v' ∧ w'.ownsRow B 5 1 v' (bs ++ fours ls).length (u8s (bs ++ fours ls)) ∧ W.grownBy w' v.ownBlock ∧ Moved W v v' := by
  subst hn
  have h2 : Sl kint (W.alloc (.cells (ints ls).toArray 3)) (W.heap.size ≤ ·) (.slice (some ⟨W.heap.size, 0, none⟩) ls.length ls.length) ls :=
    (own_ints (World.ownsRow_lit W (ints ls).toArray ls.length (Nat.le_refl _) (by simp only [maxLen]; omega) (by simp [ints]))).sl
  refine (four_any (ok := fun _ => True) B (by simp; omega) (HO.alloc _) (h2.mono fun q hq => ⟨trivial, fun e => by have := (HO.lt q e.symm).2; omega⟩) hr (by omega)).mono ?_
  rintro e w' ⟨v', rfl, ho, hg, hm⟩
  refine ⟨v', rfl, ho, World.grownBy.trans (World.grownBy_alloc W _ _) hg, ?_⟩
  rcases hm with e | ⟨k, e, hk⟩
  · exact .inl e
  · exact .inr ⟨k, e, by simp at hk; omega⟩
theorem wp_noexit {P : Program} {c : Code} {K : Act → World → Prop} {Q : Exit → Act → World → Prop} {a : Act} {w : World} (h : c.wp P (Exit.then K fun _ _ _ => False) a w) : c.wp P (Exit.then K Q) a w :=
  wp_mono h fun e a w h => by cases e <;> first | exact h | exact h.elim
/-- The same, a draw between. -/
theorem four_nil {W W1 : World} (ls : List Int) (n : Nat) (hn : ls.length = n) (hn2 : n ≤ 1000) (hr : ∀ x ∈ ls, 0 ≤ x ∧ x ≤ 4294967295) (hh : W1.heap = (W.alloc (.cells (ints ls).toArray 3)).heap) (h1 : W1.os = W.os) (h2 : W1.tape = W.tape) (h3 : W1.output = W.output) :
    Calls Tryd.prog 23 #[.slice none 0 0, .slice (some ⟨W.heap.size, 0, none⟩) n n] W1 fun e w' => ∃ v', e = .returned v' ∧ w'.ownsRow W.heap.size 5 1 v' (fours ls).length (u8s (fours ls)) ∧ W.grownBy w' none := by
  subst hn
  have h4 : Sl kint (W.alloc (.cells (ints ls).toArray 3)) (W.heap.size ≤ ·) (.slice (some ⟨W.heap.size, 0, none⟩) ls.length ls.length) ls :=
    (own_ints (World.ownsRow_lit W (ints ls).toArray ls.length (Nat.le_refl _) (by simp only [maxLen]; omega) (by simp [ints]))).sl
  have h5 : Sl kint W1 (W.heap.size ≤ ·) (.slice (some ⟨W.heap.size, 0, none⟩) ls.length ls.length) ls := h4.move fun k _ => by rw [hh]
  have hs1 : W1.heap.size = W.heap.size + 1 := by rw [hh]; simp
  refine (four_any (v := .slice none 0 0) (bs := []) (ok := fun _ => True) W.heap.size (by omega) (World.ownsRow_nil _ _ _ _) (h5.mono fun q hq => ⟨trivial, fun e => by cases e⟩) hr (by simp; omega)).mono ?_
  rintro e w' ⟨v', rfl, ho, hg, hm⟩
  refine ⟨v', rfl, ho, hg.os.trans h1, hg.tape.trans h2, hg.output.trans h3, by have := hg.size; omega, fun q hq _ => ?_⟩
  refine (hg.block q (by omega) (fun e => by cases e)).trans ?_
  rw [hh]
  exact Below.heap_alloc W _ q hq
theorem enc_done {w W9 w10 : World} {gen n : Int} {l : List Node} {N D : Nat} {dv hv : Value} {vs : List Value} (hok : encOk gen n l = true) (hbl : BL W9 (N + 3) dv vs (dataF l)) (hbel : Below w.heap.size w W9) (hN : w.heap.size ≤ N) (hD : w.heap.size ≤ D) (hKd : W9.heap[D]? = some (.deferred (some [])))
    (hg : W9.grownBy w10 none) (ho : w10.ownsRow W9.heap.size 5 1 hv (headF gen n l.length).length (u8s (headF gen n l.length))) :
    EncPost w gen n l (.returned (.tuple #[hv, dv, .int .i64 0])) (w10.putObj D (.deferred none)) ∧ w10.heap[D]? = some (.deferred (some [])) := by
  have hDl := blk_lt hKd
  have hD10 : w10.heap[D]? = some (.deferred (some [])) := (hg.block D hDl (fun e => by cases e)).trans hKd
  have hput : ∀ q, q ≠ D → (w10.putObj D (.deferred none)).heap[q]? = w10.heap[q]? := fun q hq => World.putObj_heap_other hq
  refine ⟨⟨fun _ => ⟨hv, dv, vs, rfl, ?_, ?_⟩, fun e => absurd (hok.symm.trans e) (by decide), ?_⟩, hD10⟩
  · exact ownsRow_move (ho.mono hbel.size) fun q e => hput q (by have := (ho.lt q e).1; omega)
  · have h10 := hbl.grown hg (fun q e => by cases e)
    exact (h10.low (by omega)).move fun q c t _ hq _ => hput q (fun e => by subst e; rw [hq] at hD10; cases hD10)
  · exact ⟨hg.os.trans hbel.os, hg.tape.trans hbel.tape, hg.output.trans hbel.output, by have := hg.size; have := hbel.size; simp; omega, fun q hq => (hput q (by omega)).trans ((hg.block q (by have := hbel.size; omega) (fun e => by cases e)).trans (hbel.block q hq))⟩
set_option maxHeartbeats 8000000 in
set_option maxRecDepth 100000 in
theorem pencode_any {w : World} {ok : Nat → Prop} {v : Value} {l : List Node} (gen n : Int) (hs : Sl knode w ok v l) (hl : l.length ≤ 16777216) : Calls Tryd.prog 8 #[.int .i64 gen, .int .i64 n, v] w (EncPost w gen n l) := by
  obtain ⟨A, c, rfl, hc, hm⟩ := hs.slice
  by_cases h1 : gen < 1
  · have f1 : decide (gen < 1) = true := decide_eq_true h1
    have HP : Aside (EncPost w gen n l (.returned (.tuple #[.slice none 0 0, .slice none 0 0, .int .i64 220])) w) := ⟨enc_no (by unfold encOk; rw [decide_eq_false (by omega)]; rfl) (Below.refl _ _)⟩
    clear hs h1
    go_enter Tryd.func8, Tryd.ntmps8
    go_wp2
    exact bodyPost_ret (by simp [results, Tryd.results8, go_sem]) rfl HP.out
  have f1 : decide (gen < 1) = false := decide_eq_false h1
  by_cases h2 : 2147483647 < gen
  · have f2 : decide (2147483647 < gen) = true := decide_eq_true h2
    have HP : Aside (EncPost w gen n l (.returned (.tuple #[.slice none 0 0, .slice none 0 0, .int .i64 220])) w) := ⟨enc_no (by unfold encOk; rw [decide_eq_false (by omega)]; rfl) (Below.refl _ _)⟩
    clear hs h1 h2
    go_enter Tryd.func8, Tryd.ntmps8
    go_wp2
    exact bodyPost_ret (by simp [results, Tryd.results8, go_sem]) rfl HP.out
  have f2 : decide (2147483647 < gen) = false := decide_eq_false h2
  by_cases h3 : n < 0
  · have f3 : decide (n < 0) = true := decide_eq_true h3
    have HP : Aside (EncPost w gen n l (.returned (.tuple #[.slice none 0 0, .slice none 0 0, .int .i64 220])) w) := ⟨enc_no (by unfold encOk; rw [decide_eq_false (by omega)]; rfl) (Below.refl _ _)⟩
    clear hs h1 h2 h3
    go_enter Tryd.func8, Tryd.ntmps8
    go_wp2
    exact bodyPost_ret (by simp [results, Tryd.results8, go_sem]) rfl HP.out
  have f3 : decide (n < 0) = false := decide_eq_false h3
  by_cases h4 : 16777216 < n
  · have f4 : decide (16777216 < n) = true := decide_eq_true h4
    have HP : Aside (EncPost w gen n l (.returned (.tuple #[.slice none 0 0, .slice none 0 0, .int .i64 220])) w) := ⟨enc_no (by unfold encOk; rw [decide_eq_false (by omega)]; rfl) (Below.refl _ _)⟩
    clear hs h1 h2 h3 h4
    go_enter Tryd.func8, Tryd.ntmps8
    go_wp2
    exact bodyPost_ret (by simp [results, Tryd.results8, go_sem]) rfl HP.out
  have f4 : decide (16777216 < n) = false := decide_eq_false h4
  have HOK : Aside (encOk gen n l = mayF n l) := ⟨by unfold encOk; rw [decide_eq_true (by omega)]; rfl⟩
  have HRG : Aside ((1 ≤ gen ∧ gen ≤ 2147483647) ∧ 0 ≤ n ∧ n ≤ 16777216) := ⟨by omega⟩
  have hmay := pmay_any n hs hl
  have HS := Aside.mk hs
  have HEl := Aside.mk (@may_el n l)
  clear hs h1 h2 h3 h4
  generalize mayF n l = mb at *
  refine (callsIn_wide (n := 6)).1 ?_
  refine callsIn_of_wp_marks Tryd.func8 rfl trivial ?_
  simp only [Tryd.ntmps8, List.size_toArray, List.length_cons, List.length_nil, Nat.reduceAdd, Nat.reduceSub, Array.replicate_succ, Array.replicate_zero, List.push_toArray, List.append_toArray, List.nil_append, List.cons_append]
  refine wpIn_wide.2 ?_
  go_wp2_with fail
  refine hmay.mono ?_
  clear hmay
  rintro e w1 ⟨rfl, B1⟩
  have HB1 := Aside.mk B1
  clear B1
  cases mb with
  | false =>
    go_wp2
    exact ⟨_, by simp [results, Tryd.results8, go_sem], enc_no HOK.out HB1.out⟩
  | true =>
    go_wp2_with fail
    refine (chunk_any A l.length c _).mono ?_
    rintro e w2 ⟨rfl, rfl⟩
    go_wp2_with fail
    have HEl2 : Aside (∀ x ∈ l, (0 ≤ x.K ∧ x.K < 16777216) ∧ (0 ≤ x.Least ∧ x.Least < n) ∧ (1 ≤ x.Size ∧ x.Size ≤ n) ∧ -1 ≤ x.Parent ∧ x.Parent < l.length) := ⟨HEl.out trivial⟩
    clear HEl
    have hba : ∃ b o, 0 < l.length → A = some ⟨b, o, none⟩ := by
      by_cases h0 : 0 < l.length
      · obtain ⟨b, o, e, _⟩ := HS.out.node 0 h0
        exact ⟨b, o, fun _ => e⟩
      · exact ⟨0, 0, fun h => absurd h h0⟩
    obtain ⟨b, o, hA⟩ := hba
    have hN : w.heap.size ≤ w1.heap.size := HB1.out.size
    obtain ⟨N, hNe⟩ : ∃ N, N = w1.heap.size := ⟨_, rfl⟩
    have hsz5 : (((w1.alloc (.cells #[.slice none 0 0] 29)).alloc (.cells #[.slice A l.length c] 22)).alloc (.cells #[.int .i64 50] 3)).heap.size = N + 3 := by simp [hNe]
    have hBs : (((w1.alloc (.cells #[.slice none 0 0] 29)).alloc (.cells #[.slice A l.length c] 22)).alloc (.cells #[.int .i64 50] 3)).cell? ⟨N + 1, 0, none⟩ = some (.slice A l.length c) := by simp [go_sem, hNe]
    have hBn : (((w1.alloc (.cells #[.slice none 0 0] 29)).alloc (.cells #[.slice A l.length c] 22)).alloc (.cells #[.int .i64 50] 3)).cell? ⟨N + 2, 0, none⟩ = some (.int .i64 50) := by simp [go_sem, hNe]
    have hDb : (((w1.alloc (.cells #[.slice none 0 0] 29)).alloc (.cells #[.slice A l.length c] 22)).alloc (.cells #[.int .i64 50] 3)).heap[N]? = some (.cells #[.slice none 0 0] 29 (0, 0)) := by
      rw [Below.heap_alloc _ _ _ (by simp only [World.size_alloc]; omega), Below.heap_alloc _ _ _ (by simp only [World.size_alloc]; omega), hNe]
      exact heap_alloc_new _ _
    have hB5 : Below w.heap.size w (((w1.alloc (.cells #[.slice none 0 0] 29)).alloc (.cells #[.slice A l.length c] 22)).alloc (.cells #[.int .i64 50] 3)) := ((HB1.out.alloc (by omega) _).alloc (by simp; omega) _).alloc (by simp; omega) _
    rw [← hNe] at hN ⊢
    generalize ((w1.alloc (.cells #[.slice none 0 0] 29)).alloc (.cells #[.slice A l.length c] 22)).alloc (.cells #[.int .i64 50] 3) = W5 at *
    have HI0 : Aside (EInv w N (N + 3) l 0 W5) := ⟨⟨_, [], BL.nil _ _, hDb, hB5, by omega⟩⟩
    clear hDb hB5 hNe HB1
    have HN := Aside.mk hN
    refine (wpIn_wide (n := 6)).1 ?_
    refine range_known_d (F := Fence.wide) (n := 6) rfl (by omega) (gf := 36) (lb := #[.pointer (some ⟨N + 1, 0, none⟩), .pointer (some ⟨N + 2, 0, none⟩)]) rfl trivial (enters_of Tryd.func36 (by kernel_rfl) rfl) (encs := fun x : Nat => #[chunkV b o l.length x])
      (Kp := Stay fun q => q = N + 1 ∨ q = N + 2) (List.range (cnt l.length)) (fun l' J W hb hJd hY h0 => chunk_known (n := 6 - 1) trivial rfl (by omega) (L := fun q => q = N + 1 ∨ q = N + 2) (.inl rfl) (.inr rfl) hA hl hc hBs hBn l' J W hb hJd hY h0)
      (fun h k q hq hlt => ⟨((k q hq (h q hq hlt).2).1).trans (h q hq hlt).1, (k q hq (h q hq hlt).2).2⟩)
      (fun W l' o o' hl _ _ q hq hlt => ⟨World.putObj_heap_other (by rcases hq with h | h <;> omega), by simpa using hlt⟩) (fun _ => rfl)
      (EInv w N (N + 3) l) (by rw [hsz5]; exact EInv.own (by omega) (by omega)) HI0.out ?round ?done
    case round =>
      clear HI0 hBs hBn
      intro l' k x W K hx hK
      gi_wp2
      rintro W2 ⟨dv, vs, hbl, hdc, hbel, hsz⟩ hsz2
      have hkx : k < cnt l.length ∧ x = k := by
        obtain ⟨h1, h2⟩ := List.getElem?_eq_some_iff.1 hx
        simp at h1 h2
        exact ⟨h1, h2.symm⟩
      obtain ⟨hk, rfl⟩ := hkx
      have h50 : 50 * x < l.length := by unfold cnt at hk; omega
      obtain rfl := hA (by omega)
      have hsub : Sl knode W2 ok (.slice (some ⟨b, o + 50 * x * 4, none⟩) (min 50 (l.length - 50 * x)) (min 50 (l.length - 50 * x))) ((l.drop (50 * x)).take (min 50 (l.length - 50 * x))) := (HS.out.below hbel).part (i := 50 * x) (m := min 50 (l.length - 50 * x)) (by omega)
      have hch : (l.drop (50 * x)).take (min 50 (l.length - 50 * x)) = chunkL l x := by
        unfold chunkL
        rw [List.take_eq_take_iff]
        simp
      rw [hch] at hsub
      have hql := chunkL_length l x
      have hcv : chunkV b o l.length x = .slice (some ⟨b, o + 50 * x * 4, none⟩) (chunkL l x).length (chunkL l x).length := by rw [hql]; rfl
      rw [← hql] at hsub
      have HR : Aside (∀ y ∈ chunkL l x, (0 ≤ y.K ∧ y.K < 16777216) ∧ (0 ≤ y.Least ∧ y.Least < n) ∧ (1 ≤ y.Size ∧ y.Size ≤ n) ∧ -1 ≤ y.Parent ∧ y.Parent < l.length) := ⟨fun y hy => HEl2.out y (List.mem_of_mem_drop (List.mem_of_mem_take hy))⟩
      have HNext := Aside.mk (fun W7 w9 dv1 v => EInv.next (W7 := W7) (w9 := w9) (dv1 := dv1) (v := v) hbl hdc hbel hsz (by omega) hN)
      have HOwn := Aside.mk hbl.own
      have cdb : W2.cell? ⟨N, 0, none⟩ = some dv := cell_blk hdc rfl
      rw [hcv]
      have hq50 : (chunkL l x).length ≤ 50 := by omega
      have HSz := Aside.mk hsz
      have HXB : Aside (x ≤ 16777216) := ⟨by omega⟩
      clear hbl hdc hbel hsz hch hql hcv hx hk h50 hA HS HEl2 hsz2
      obtain ⟨ch, hche⟩ : ∃ ch, ch = chunkL l x := ⟨_, rfl⟩
      rw [← hche] at hsub HR hq50 ⊢
      have HCH := Aside.mk hche
      have HSub := Aside.mk hsub
      clear hche hsub
      obtain ⟨i0, hi0, hz0, hz1, hz2⟩ := info_parts Tryd.infoByte
      have hmk : (Instr.makeSlice 28 (.int .i64 0) (.int .i64 (16 * (ch.length : Int)))).run Tryd.prog W2 = .ok (.slice (some ⟨W2.heap.size, 0, none⟩) 0 (16 * ch.length)) (W2.alloc (.cells (madeCells #[.int .u8 0] (16 * ch.length)) 5)) := by
        have h := run_make (P := Tryd.prog) W2 28 5 i0 _ Tryd.underlying28 hi0 hz0 .i64 .i64 0 (16 * (ch.length : Int)) (by omega) (by omega) (by rw [hz2]; omega) (by omega)
        have e : (16 * (ch.length : Int)).toNat = 16 * ch.length := by omega
        rw [e, hz1] at h
        simpa [Value.cells] using h
      have HR0 : Aside ((W2.alloc (.cells (madeCells #[.int .u8 0] (16 * ch.length)) 5)).ownsRow W2.heap.size 5 1 (.slice (some ⟨W2.heap.size, 0, none⟩) 0 (16 * ch.length)) (rowB (ch.take 0)).length (u8s (rowB (ch.take 0)))) := ⟨World.ownsRow_made W2 _ (16 * ch.length) (Nat.le_refl _) (by simp only [maxLen]; omega) (by rw [size_madeCells]; omega)⟩
      have HB0 := Aside.mk ((Below.refl W2.heap.size W2).alloc (Nat.le_refl _) (.cells (madeCells #[.int .u8 0] (16 * ch.length)) 5))
      clear hi0 hz0 hz1 hz2
      gi_wp2
      obtain ⟨B2, hB2⟩ : ∃ B2, B2 = W2.heap.size := ⟨_, rfl⟩
      rw [← hB2] at HR0 HB0 ⊢
      have HBE := Aside.mk hB2
      clear hB2 hmk
      generalize W2.alloc (.cells (madeCells #[.int .u8 0] (16 * ch.length)) 5) = W3 at *
      gi_loopg [11, 43] ch.length (fun kq v11 v43 wr => ∃ (i : Nat), Aside (i + kq = ch.length) ∧ v43 = .int .i64 i ∧ Aside (Below B2 W2 wr) ∧ Aside (wr.ownsRow B2 5 1 v11 (rowB (ch.take i)).length (u8s (rowB (ch.take i)))))
      case atStart => exact ⟨0, ⟨by omega⟩, rfl, HB0, HR0⟩
      case round =>
        clear HR0 HB0
        obtain ⟨i, HI, rfl, HB, HRow⟩ := hrel
        by_cases hi : i < ch.length
        · obtain ⟨b', o', e, k0, k1, k2, k3⟩ := (HSub.out.below (by rw [← HBE.out]; exact HB.out)).node i hi
          cases e
          have hx := HR.out ch[i] (List.getElem_mem hi)
          have HT := Aside.mk (rowB_take hi)
          have hlen : (rowB (ch.take i)).length ≤ 1000 := by rw [rowB_length, List.length_take]; omega
          have hsz : B2 ≤ wr.heap.size := by have := HB.out.size; have := HBE.out; omega
          generalize ch[i] = y at *
          obtain ⟨xk, xl, xs, xp⟩ := y
          simp only at hx k0 k1 k2 k3
          have HIN : Aside (ch.length - (i + 1) < gk) := ⟨by have := HI.out; omega⟩
          obtain ⟨⟨a1, a2⟩, ⟨a3, a4⟩, ⟨a5, a6⟩, a7, a8⟩ := hx
          have hn24 : n ≤ 16777216 := HRG.out.2.2
          have hcon := four_lit (W := wr.alloc (.cells #[.int .i64 xk, .int .i64 xl, .int .i64 xs, .int .i64 xp] 27)) B2 (by simp; omega) (HRow.out.alloc _) [xk, xl, xs, xp + 1] 4 rfl (by omega) (by intro z hz; simp at hz; omega) (by omega)
          rw [World.size_alloc] at hcon
          simp only [ints, List.map_cons, List.map_nil] at hcon
          have HCon := Aside.mk hcon
          have HBA := Aside.mk (HB.out.alloc hsz (.cells #[.int .i64 xk, .int .i64 xl, .int .i64 xs, .int .i64 xp] 27))
          have HRL : Aside (∀ q, u11.ownBlock = some q → B2 ≤ q) := ⟨fun q e => (HRow.out.lt q e).1⟩
          have HS2 : Aside (B2 ≤ (wr.alloc (.cells #[.int .i64 xk, .int .i64 xl, .int .i64 xs, .int .i64 xp] 27)).heap.size) := ⟨by rw [World.size_alloc]; omega⟩
          clear hcon a2 a4 a6 hlen hsz
          gi_wp2_with fail
          refine ⟨trivial, (CallsIn.inRound l' (callsIn_wide.2 HCon.out)).mono ?_⟩
          clear HCon k0 k1 k2 k3
          rintro e w9 ⟨v9, rfl, ho9, hg9, hm9⟩
          have HB9 := Aside.mk (HBA.out.grown hg9 HS2.out HRL.out)
          have HO9 := Aside.mk ho9
          clear ho9 hg9 hm9 HBA HRow HB HRL
          gi_wp2_with fail
          gi_roundg (ch.length - (i + 1))
          case measure => exact HIN.out
          case rel => exact ⟨i + 1, ⟨by omega⟩, by go_num, HB9, ⟨by rw [HT.out]; exact HO9.out⟩⟩
        · have hit : ch.take i = ch := List.take_of_length_le (by omega)
          rw [hit] at HRow
          obtain ⟨A1, m1, c1, rfl⟩ := own_slice HRow.out
          replace hi : ch.length ≤ i := by omega
          have hNB : N + 3 ≤ B2 := by have := HSz.out; have := HBE.out; omega
          have cdb2 : wr.cell? ⟨N, 0, none⟩ = some dv := (World.cell?_of_block (HB.out.block N (by omega))).trans cdb
          have HOwr : Aside (wr.ownsRow (N + 3) 28 1 dv ((List.range x).map fun j => rowB (chunkL l j)).length vs) := ⟨ownsRow_move HOwn.out fun q e => HB.out.block q (by rw [HBE.out]; exact (HOwn.out.lt q e).2)⟩
          have HNx : Aside (∀ (w9 : World) (dv1 : Value), w9.ownsRow (N + 3) 28 1 dv1 (((List.range x).map fun j => rowB (chunkL l j)).length + 1) (vs ++ [.slice A1 m1 c1]) → wr.grownBy w9 dv.ownBlock → (dv1.ownBlock = dv.ownBlock ∨ dv1.ownBlock = some (wr.heap.size + 1)) →
              w9.heap[N]? = some (.cells #[dv] 29 (0, 0)) ∧ EInv w N (N + 3) l (x + 1) (w9.setCell ⟨N, 0, none⟩ dv1) ∧ KeepsFrom (N + 3) W2 (w9.setCell ⟨N, 0, none⟩ dv1) ∧ Stay (fun q => q = N + 1 ∨ q = N + 2) W2 (w9.setCell ⟨N, 0, none⟩ dv1)) :=
            ⟨fun w9 dv1 => HNext.out wr w9 dv1 _ (by rw [← HBE.out]; exact HB.out) (by rw [← HBE.out, ← HCH.out]; exact HRow.out)⟩
          have HWr : Aside (N + 3 ≤ wr.heap.size) := ⟨by have := HB.out.size; have := HBE.out; omega⟩
          have HLen : Aside (((List.range x).map fun j => rowB (chunkL l j)).length ≤ 16777216) := ⟨by rw [List.length_map, List.length_range]; exact HXB.out⟩
          generalize ((List.range x).map fun j => rowB (chunkL l j)).length = cntx at *
          clear HB HRow hit HNext HOwn cdb HSub HR HCH
          gi_wp2_with (gi_at_builtin; go_must (refine app_one_in (N + 3) rfl _ _ 29 28 (.slice none 0 0) 1 24 rfl Tryd.underlying29 Tryd.infoBytes rfl (by decide) (by decide) dv cntx vs [.slice A1 m1 c1] rfl rfl rfl (by simp [Value.oneCell']) HOwr.out HWr.out (by have := HLen.out; omega) ?_; intro v1 w9 hown hg9 hat; obtain ⟨A9, m9, c9, rfl⟩ := own_slice hown; obtain ⟨hd9, hi9, hk9, hs9⟩ := HNx.out w9 _ hown hg9 hat; have cd9 : w9.cell? ⟨N, 0, none⟩ = some dv := cell_blk hd9 rfl; have fd9 : w9.frozen? ⟨N, 0, none⟩ = false := frozen_of_row w9 N 0 _ _ hd9; have HI9 := Aside.mk hi9; have HK9 := Aside.mk hk9; have HS9 := Aside.mk hs9; clear hown hg9 hat hd9 hi9 hk9 hs9))
          exact ⟨by rw [hsz5]; exact HK9.out, HS9.out, HI9.out⟩
    case done =>
      clear HI0 hBs hBn hA HEl2
      rintro D W9 hD ⟨dv, vs, hbl, hdc, hbel, hsz⟩ hKd
      rw [List.length_range] at hbl
      have hbl : BL W9 (N + 3) dv vs (dataF l) := hbl
      have HDone := Aside.mk (fun (w10 : World) (hv : Value) => enc_done (w10 := w10) (hv := hv) HOK.out hbl hbel hN (by omega) hKd)
      have cdb : W9.cell? ⟨N, 0, none⟩ = some dv := cell_blk hdc rfl
      have HCD := Aside.mk cdb
      have HNL : Aside (N < W9.heap.size) := ⟨blk_lt hdc⟩
      obtain ⟨A2, m2, c2, rfl⟩ := own_slice hbl.own
      clear hbl hdc hbel hKd
      have HLen := Aside.mk hl
      have cdA : (W9.alloc (.cells #[.int .i64 gen, .int .i64 n, .int .i64 (l.length : Int)] 3)).cell? ⟨N, 0, none⟩ = some (.slice A2 m2 c2) := (World.cell?_of_block (Below.heap_alloc W9 _ N HNL.out)).trans HCD.out
      go_wp2_with fail
      go_cut [6, 7, 8] from 64 to 70 (fun v6 v7 v8 wx => ∃ A1 m1 c1, v6 = .slice A1 m1 c1 ∧ v7 = .slice A2 m2 c2 ∧ v8 = .int .i64 0 ∧ Aside (EncPost w gen n l (.returned (.tuple #[.slice A1 m1 c1, .slice A2 m2 c2, .int .i64 0])) (wx.putObj D (.deferred none))) ∧ Aside (wx.heap[D]? = some (.deferred (some []))))
      case first =>
        refine wp_noexit ?_
        go_region_with (go_at_call 23; refine (four_nil (W := W9) [gen, n, (l.length : Int)] 3 rfl (by omega) (by have := HRG.out; have := HLen.out; intro z hz; simp at hz; omega) (by rfl) (by rfl) (by rfl) (by rfl)).mono ?_; rintro e w10 ⟨hv, rfl, ho, hg⟩; have cd10 : w10.cell? ⟨N, 0, none⟩ = some (.slice A2 m2 c2) := (World.cell?_of_block (hg.block N HNL.out (fun e => by cases e))).trans HCD.out; obtain ⟨HP, hD10⟩ := HDone.out w10 _ hg ho; obtain ⟨A1, m1, c1, rfl⟩ := own_slice ho; have HP10 := Aside.mk HP; have HD10 := Aside.mk hD10; clear HP hD10 ho hg)
        all_goals go_wp2
        all_goals go_meet
        all_goals exact ⟨A1, m1, c1, rfl, rfl, rfl, HP10, HD10⟩
      case rest =>
        obtain ⟨A1, m1, c1, rfl, rfl, rfl, HP10, HD10⟩ := hcut
        go_wp2
        refine ⟨by simp, .inl ⟨_, _, rfl, run_takeDeferred HD10.out, ?_⟩⟩
        exact ⟨_, by simp [results, Tryd.results8, go_sem], HP10.out⟩
end Go.Proofs.YtikgdhmnnnicmaaDoor
