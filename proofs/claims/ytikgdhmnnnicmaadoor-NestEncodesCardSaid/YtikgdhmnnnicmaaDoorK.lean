import Derived.Test.YtikgdhmnnnicmaaDoorN
import Derived.Test.YtikgdhmnnnicmaaDoorC
namespace Go.Proofs.YtikgdhmnnnicmaaDoor
open Go.RowKit
theorem Tryd.info42 : (Tryd.prog.info? 27).map (fun i => (i.zero, i.size, i.bytes)) = some (some (.agg #[.int .i64 0, .int .i64 0, .int .i64 0, .int .i64 0]), 4, 32) := by kernel_rfl
def enterF (S : UF) (v : Nat) : UF := { S with up := S.up.set v v, least := S.least.set v v, size := S.size.set v 1 }
def joinF (K : Nat) (v : Nat) (S : UF) (us : List Int) : Option UF := us.foldlM (fun S u => if 0 ≤ S.up.getD u.toNat 0 then uniteF K S u.toNat v else some S) S
def takeF (K : Nat) (adj : List (List Int)) (S : UF) (vs : List Int) : Option UF := vs.foldlM (fun S v => joinF K v.toNat (enterF S v.toNat) (adj.getD v.toNat [])) S
def addKey (ks : List Int) (r : Int) : List Int := if r ∈ ks then ks else ks ++ [r]
def partsF (K : Nat) (a : List Int × UF) (vs : List Int) : Option (List Int × UF) := vs.foldlM (fun a v => (findF K a.2.up v.toNat).map fun b => (addKey a.1 (b.2 : Int), { a.2 with up := b.1 })) a
/-- The parents of some nodes become the place behind the list. -/
def topsF (out : List Node) (is : List Int) : Option (List Node) := is.foldlM (fun o i => if 0 ≤ i ∧ i.toNat < o.length then some (o.modify i.toNat fun x => { x with Parent := o.length }) else none) out
def rootF (k : Int) (least size : List Int) (a : List Node × List (List Int)) (r : Int) : Option (List Node × List (List Int)) :=
  (topsF a.1 (a.2.getD r.toNat [])).bind fun out => if out.length < 16777216 then some (out ++ [⟨k, least.getD r.toNat 0, size.getD r.toNat 0, -1⟩], a.2.set r.toNat [(out.length : Int)]) else none
def rootsF (k : Int) (least size : List Int) (a : List Node × List (List Int)) (rs : List Int) : Option (List Node × List (List Int)) := rs.foldlM (rootF k least size) a

/-- From the world w0, where the rows were rows0, only the forest has turned, and what is new. -/
structure Lv (p : At) (n : Nat) (w0 : World) (rows0 : List Value) (w : World) (S : UF) (rows : List Value) : Prop where
  st : FSt p n w S rows
  only : Only (foot p rows0) w0 w
  fr : RowsFrom w0.heap.size rows0 rows
theorem partsF_length {K : Nat} {vs : List Int} : ∀ {a b : List Int × UF}, partsF K a vs = some b → b.1.length ≤ a.1.length + vs.length := by
  induction vs with
  | nil => intro a b h; simp only [partsF, List.foldlM_nil] at h; cases h; simp
  | cons v vs ih =>
    intro a b h
    simp only [partsF, List.foldlM_cons] at h
    obtain ⟨c, hc, h⟩ := Option.bind_eq_some_iff.1 h
    obtain ⟨d, _, rfl⟩ := Option.map_eq_some_iff.1 hc
    have := ih h
    have h2 : (addKey a.1 (d.2 : Int)).length ≤ a.1.length + 1 := by unfold addKey; split <;> simp
    simp only [List.length_cons] at *
    omega
theorem mget_int {m : List (Int × Value)} (h : ∀ q ∈ m, ∃ c : Int, q.2 = .int .i64 c) (x : Int) : ∃ c : Int, (mget m x).getD (.int .i64 0) = .int .i64 c := by
  unfold mget
  cases hf : m.find? fun p => decide (p.1 = x) with
  | none => exact ⟨0, rfl⟩
  | some q => exact h q (List.mem_of_find?_eq_some hf)
theorem mput_int {m : List (Int × Value)} (h : ∀ q ∈ m, ∃ c : Int, q.2 = .int .i64 c) (x c : Int) : ∀ q ∈ mput m x (.int .i64 c), ∃ c : Int, q.2 = .int .i64 c := by
  intro q hq
  unfold mput at hq
  split at hq
  · obtain ⟨z, hz, rfl⟩ := List.mem_map.1 hq
    split
    · exact ⟨c, rfl⟩
    · exact h z hz
  · rcases List.mem_append.1 hq with hq | hq
    · exact h q hq
    · simp at hq; exact ⟨c, by rw [hq]⟩
theorem sortBy_perm {least L M : List Int} (hp : L.Perm M) (hinj : ∀ a ∈ L, ∀ b ∈ L, least.getD a.toNat 0 = least.getD b.toNat 0 → a = b) : sortBy least L = sortBy least M := by
  have tr : ∀ a b c : Int, decide (least.getD a.toNat 0 ≤ least.getD b.toNat 0) = true → decide (least.getD b.toNat 0 ≤ least.getD c.toNat 0) = true → decide (least.getD a.toNat 0 ≤ least.getD c.toNat 0) = true := by simp only [decide_eq_true_eq]; intros; omega
  have tt : ∀ a b : Int, (decide (least.getD a.toNat 0 ≤ least.getD b.toNat 0) || decide (least.getD b.toNat 0 ≤ least.getD a.toNat 0)) = true := by simp only [Bool.or_eq_true, decide_eq_true_eq]; intros; omega
  have p1 := List.mergeSort_perm L fun a b => decide (least.getD a.toNat 0 ≤ least.getD b.toNat 0)
  have p2 := List.mergeSort_perm M fun a b => decide (least.getD a.toNat 0 ≤ least.getD b.toNat 0)
  refine List.Perm.eq_of_pairwise (le := fun a b => decide (least.getD a.toNat 0 ≤ least.getD b.toNat 0) = true) (fun a b ha hb h1 h2 => hinj a (p1.mem_iff.1 ha) b (hp.mem_iff.2 (p2.mem_iff.1 hb)) ?_) (List.pairwise_mergeSort tr tt L) (List.pairwise_mergeSort tr tt M) (p1.trans (hp.trans p2.symm))
  simp only [decide_eq_true_eq] at h1 h2
  omega
theorem partsF_lt {K : Nat} {vs : List Int} {n : Nat} : ∀ {a b : List Int × UF}, partsF K a vs = some b → a.2.up.length = n → (∀ r ∈ a.1, 0 ≤ r ∧ r < n) → (∀ r ∈ b.1, 0 ≤ r ∧ r < n) := by
  induction vs with
  | nil => intro a b h _ ha; simp only [partsF, List.foldlM_nil] at h; cases h; exact ha
  | cons v vs ih =>
    intro a b h hn ha
    simp only [partsF, List.foldlM_cons] at h
    obtain ⟨c, hc, h⟩ := Option.bind_eq_some_iff.1 h
    obtain ⟨⟨up', r⟩, hf, rfl⟩ := Option.map_eq_some_iff.1 hc
    obtain ⟨hr, hl⟩ := findF_lt hf
    refine ih h (by simpa using by omega) fun q hq => ?_
    simp only at hq
    unfold addKey at hq
    split at hq
    · exact ha q hq
    · rcases List.mem_append.1 hq with hq | hq
      · exact ha q hq
      · simp at hq; subst hq; omega
theorem Lv.refl {p : At} {n : Nat} {w : World} {S : UF} {rows : List Value} (h : FSt p n w S rows) : Lv p n w rows w S rows := ⟨h, Only.refl _ _, RowsFrom.refl _ _⟩
theorem Lv.trans {p : At} {n : Nat} {w0 w1 w2 : World} {r0 r1 r2 : List Value} {S1 S2 : UF} (h : Lv p n w0 r0 w1 S1 r1) (k : Lv p n w1 r1 w2 S2 r2) : Lv p n w0 r0 w2 S2 r2 :=
  ⟨k.st, h.only.chain h.fr k.only, h.fr.trans k.fr h.only.size⟩
theorem FSt.below {p : At} {n : Nat} {w w' : World} {S : UF} {rows : List Value} (h : FSt p n w S rows) (hB : p.B ≤ w.heap.size) (hb : Below w.heap.size w w') : FSt p n w' S rows :=
  h.kept (fun k hk => hb.block k (by omega)) fun k _ hk => hb.block k hk
theorem Lv.of_below {p : At} {n : Nat} {w w' : World} {S : UF} {rows : List Value} (h : FSt p n w S rows) (hB : p.B ≤ w.heap.size) (hb : Below w.heap.size w w') : Lv p n w rows w' S rows := ⟨h.below hB hb, Only.of_below hb, RowsFrom.refl _ _⟩
theorem FSt.foot_lt {p : At} {n : Nat} {w : World} {S : UF} {rows : List Value} (h : FSt p n w S rows) (hB : p.B ≤ w.heap.size) {q : Nat} (hq : foot p rows q) : q < w.heap.size := by
  obtain ⟨h1, h2, h3, h4, h5⟩ := h.ltB
  rcases hq with rfl | rfl | rfl | rfl | ⟨j, u, hj, hu⟩
  · omega
  · omega
  · omega
  · omega
  · exact ((h.rows.own j u _ hj (List.getElem?_eq_getElem (by rw [← h.rows.len]; exact (List.getElem?_eq_some_iff.1 hj).1))).lt q hu).2
/-- What stays out of the forest's blocks stays as it is. -/
theorem Lv.sl {α : Type} {K : Kind α} {p : At} {n : Nat} {w0 w : World} {r0 rows : List Value} {S : UF} {v : Value} {xs : List α} (h : Lv p n w0 r0 w S rows) (hs : Sl K w0 (fun q => ¬ foot p r0 q) v xs) : Sl K w (fun q => ¬ foot p r0 q) v xs :=
  hs.step fun k hk hlt => h.only.block k hlt hk
theorem Lv.graph {p : At} {n m : Nat} {w0 w : World} {r0 rows : List Value} {S : UF} {gv : Value} {adj : List (List Int)} (h : Lv p n w0 r0 w S rows) (hs : GraphIs w0 (fun q => ¬ foot p r0 q) gv m adj) : GraphIs w (fun q => ¬ foot p r0 q) gv m adj := by
  obtain ⟨gb, mv, tv, rfl, h0, h1, h2⟩ := hs
  exact ⟨gb, mv, tv, rfl, h0, (h.only.block gb (blk_lt h1) h0).trans h1, h.sl h2⟩
theorem Lv.blk {p : At} {n : Nat} {w0 w : World} {r0 rows : List Value} {S : UF} {b : Nat} {o : Obj} (h : Lv p n w0 r0 w S rows) (hb : w0.heap[b]? = some o) (hf : ¬ foot p r0 b) : w.heap[b]? = some o := (h.only.block b (blk_lt hb) hf).trans hb
theorem Lv.off {p : At} {n : Nat} {w0 w : World} {r0 rows : List Value} {S : UF} {q : Nat} (h : Lv p n w0 r0 w S rows) (hf : ¬ foot p r0 q) (hq : q < w0.heap.size) : ¬ foot p rows q := by
  rintro (rfl | rfl | rfl | rfl | ⟨j, u, hj, hu⟩)
  · exact hf (.inl rfl)
  · exact hf (.inr (.inl rfl))
  · exact hf (.inr (.inr (.inl rfl)))
  · exact hf (.inr (.inr (.inr (.inl rfl))))
  · rcases h.fr j u q hj hu with h1 | h1
    · exact hf (.inr (.inr (.inr (.inr h1))))
    · omega
theorem Rows.kept2 {w w' : World} {B tb : Nat} {rows : List Value} {xss : List (List Int)} (h : Rows w B tb rows xss) (ht : w'.heap[tb]? = w.heap[tb]?) (hk : ∀ (j : Nat) u k, rows[j]? = some u → u.ownBlock = some k → w'.heap[k]? = w.heap[k]?) : Rows w' B tb rows xss where
  blk := ht.trans h.blk
  len := h.len
  lt := h.lt
  own i v xs h1 h2 := ownsRow_move (h.own i v xs h1 h2) fun k e => hk i v k h1 e
  apart := h.apart
theorem Lv.grown {p : At} {n : Nat} {w0 w w' : World} {r0 rows : List Value} {S : UF} {row : Option Nat} (h : Lv p n w0 r0 w S rows) (hg : w.grownBy w' row) (hr : ∀ q, row = some q → w0.heap.size ≤ q ∧ p.B ≤ q ∧ ¬ foot p rows q) : Lv p n w0 r0 w' S rows := by
  have hlow : ∀ k, k < p.B → k < w.heap.size → w'.heap[k]? = w.heap[k]? := fun k h1 h2 => hg.block k h2 fun e => by have := (hr k e.symm).2.1; omega
  refine ⟨{ h.st with f := (hlow _ h.st.ltB.1 (blk_lt h.st.f)).trans h.st.f, u := (hlow _ h.st.ltB.2.1 (blk_lt h.st.u)).trans h.st.u, l := (hlow _ h.st.ltB.2.2.1 (blk_lt h.st.l)).trans h.st.l, s := (hlow _ h.st.ltB.2.2.2.1 (blk_lt h.st.s)).trans h.st.s, rows := h.st.rows.kept2 (hlow _ h.st.ltB.2.2.2.2 (blk_lt h.st.rows.blk)) fun j u k hj hk => ?_ }, ⟨hg.os.trans h.only.os, hg.tape.trans h.only.tape, hg.output.trans h.only.output, Nat.le_trans h.only.size hg.size, fun k hk hf => ?_⟩, h.fr⟩
  · refine hg.block k ((h.st.rows.own j u _ hj (List.getElem?_eq_getElem (by rw [← h.st.rows.len]; exact (List.getElem?_eq_some_iff.1 hj).1))).lt k hk).2 fun e => (hr k e.symm).2.2 (.inr (.inr (.inr (.inr ⟨j, u, hj, hk⟩))))
  · exact (hg.block k (Nat.lt_of_lt_of_le hk h.only.size) fun e => by have := (hr k e.symm).1; omega).trans (h.only.block k hk hf)
/-- The cells of nodes. -/
def nodeCells (xs : List Node) : List Value := xs.flatMap fun x => [.int .i64 x.K, .int .i64 x.Least, .int .i64 x.Size, .int .i64 x.Parent]
def LevelPost (p : At) (n : Nat) (w : World) (rows : List Value) (ov : Value) (S' : UF) (out' : List Node) (e : Ending) (w' : World) : Prop :=
  ∃ rows' ov', e = .returned ov' ∧ FSt p n w' S' rows' ∧ Only (fun q => foot p rows q ∨ ov.ownBlock = some q) w w' ∧ RowsFrom w.heap.size rows rows' ∧
    w'.ownsRow p.B 27 4 ov' out'.length (nodeCells out') ∧ (∀ q, ov'.ownBlock = some q → ¬ foot p rows' q) ∧ (∀ q, ov'.ownBlock = some q → ov.ownBlock = some q ∨ w.heap.size ≤ q)
theorem FSt.kept2 {p : At} {n : Nat} {w w' : World} {S : UF} {rows : List Value} (h : FSt p n w S rows) (hlow : ∀ k, k < p.B → w'.heap[k]? = w.heap[k]?) (hr : ∀ q, foot p rows q → w'.heap[q]? = w.heap[q]?) : FSt p n w' S rows :=
  { h with f := (hlow _ h.ltB.1).trans h.f, u := (hlow _ h.ltB.2.1).trans h.u, l := (hlow _ h.ltB.2.2.1).trans h.l, s := (hlow _ h.ltB.2.2.2.1).trans h.s, rows := h.rows.kept2 (hlow _ h.ltB.2.2.2.2) fun j u k hj hk => hr k (.inr (.inr (.inr (.inr ⟨j, u, hj, hk⟩)))) }
/-- The nodes' row grows beside the forest. -/
structure OutSt (p : At) (n : Nat) (w0 : World) (rows0 : List Value) (ov0 : Value) (w : World) (S : UF) (rows : List Value) (ov : Value) (out : List Node) : Prop where
  st : FSt p n w S rows
  base : p.B ≤ w0.heap.size
  only : Only (fun q => foot p rows0 q ∨ ov0.ownBlock = some q) w0 w
  fr : RowsFrom w0.heap.size rows0 rows
  own : w.ownsRow p.B 27 4 ov out.length (nodeCells out)
  apart : ∀ q, ov.ownBlock = some q → ¬ foot p rows q
  old : ∀ q, ov.ownBlock = some q → ov0.ownBlock = some q ∨ w0.heap.size ≤ q
section
variable {p : At} {n : Nat} {w0 w : World} {rows0 rows : List Value} {ov0 ov : Value} {S : UF} {out : List Node}
theorem nodeCells_length (xs : List Node) : (nodeCells xs).length = xs.length * 4 := by
  induction xs with
  | nil => rfl
  | cons x xs ih => unfold nodeCells at ih ⊢; rw [List.flatMap_cons, List.length_append, ih]; simp; omega
theorem nodeCells_modify (xs : List Node) (i : Nat) (y : Int) : nodeCells (xs.modify i fun x => { x with Parent := y }) = (nodeCells xs).set (i * 4 + 3) (.int .i64 y) := by
  induction xs generalizing i with
  | nil => simp [nodeCells]
  | cons x xs ih =>
    cases i with
    | zero => simp [nodeCells]
    | succ i =>
      have h := ih i
      unfold nodeCells at h ⊢
      have e : (i + 1) * 4 + 3 = (i * 4 + 3) + 1 + 1 + 1 + 1 := by omega
      rw [e]
      simp [h]
/-- One node's parent is set. -/
theorem OutSt.parent (h : OutSt p n w0 rows0 ov0 w S rows ov out) {i : Nat} (hi : i < out.length) (y : Int) :
    ∃ g cap, ov = .slice (some ⟨g, 0, none⟩) out.length cap ∧ w.frozen? ⟨g, i * 4 + 3, none⟩ = false ∧ (∃ u, w.cell? ⟨g, i * 4 + 3, none⟩ = some u) ∧
      OutSt p n w0 rows0 ov0 (w.setCell ⟨g, i * 4 + 3, none⟩ (.int .i64 y)) S rows ov (out.modify i fun x => { x with Parent := y }) := by
  rcases h.own.2 with ⟨_, hn⟩ | ⟨g, cap, cur, rfl, _⟩
  · omega
  · obtain ⟨hs, hg⟩ := h.own.stored (i * 4 + 3) (.int .i64 y)
    have hgB := h.own.lt g rfl
    refine ⟨g, cap, rfl, h.own.frozenAt _, ?_, ⟨h.st.kept2 (fun k hk => Below.heap_setCell _ _ _ _ (by show k ≠ g; omega)) (fun q hq => Below.heap_setCell _ _ _ _ (by show q ≠ g; intro e; subst e; exact h.apart _ rfl hq)), h.base, ?_, h.fr, ?_, h.apart, h.old⟩⟩
    · have h2 := h.own.cellAt (i * 4 + 3) (by omega)
      have h3 : i * 4 + 3 < (nodeCells out).length := by rw [nodeCells_length]; omega
      rw [List.getElem?_eq_getElem h3] at h2
      exact ⟨_, h2⟩
    · refine ⟨h.only.os, h.only.tape, h.only.output, by have := h.only.size; simpa using this, fun k hk hf => ?_⟩
      refine (Below.heap_setCell _ _ _ _ ?_).trans (h.only.block k hk hf)
      show k ≠ g
      intro e
      subst e
      rcases h.old k rfl with h1 | h1
      · exact hf (.inr h1)
      · omega
    · rw [nodeCells_modify, List.length_modify]
      exact hs
/-- One list of tops becomes a fresh one of one number. -/
theorem OutSt.tops (h : OutSt p n w0 rows0 ov0 w S rows ov out) {r : Nat} (hr : r < n) (x : Int) :
    (∃ u, (w.alloc (.cells #[.int .i64 x] 3)).cell? ⟨p.tb, r, none⟩ = some u) ∧ (w.alloc (.cells #[.int .i64 x] 3)).frozen? ⟨p.tb, r, none⟩ = false ∧
    OutSt p n w0 rows0 ov0 ((w.alloc (.cells #[.int .i64 x] 3)).setCell ⟨p.tb, r, none⟩ (.slice (some ⟨w.heap.size, 0, none⟩) 1 1)) { S with tops := S.tops.set r [x] } (rows.set r (.slice (some ⟨w.heap.size, 0, none⟩) 1 1)) ov out := by
  have hB : p.B ≤ w.heap.size := Nat.le_trans h.base h.only.size
  have hr2 : r < S.tops.length := by rw [h.st.nt]; exact hr
  obtain ⟨v, hv, hc, hf, ho⟩ := h.st.rows.at r hr2
  have htl := h.st.ltB.2.2.2.2
  have ba : Below w.heap.size w (w.alloc (.cells #[.int .i64 x] 3)) := (Below.refl _ _).alloc (Nat.le_refl _) _
  have hown : (w.alloc (.cells #[.int .i64 x] 3)).ownsRow p.B 3 1 (.slice (some ⟨w.heap.size, 0, none⟩) 1 1) ([x] : List Int).length (ints [x]) := World.ownsRow_lit w #[.int .i64 x] 1 hB (by decide) rfl
  have hR := h.st.rows.set hv hown (ba.block _ (blk_lt h.st.rows.blk)) (fun k _ hk _ => ba.block k hk) (fun k hk => .inr (by cases hk; exact Nat.le_refl _))
  have hat : ∀ k, k < w.heap.size → k ≠ p.tb → ((w.alloc (.cells #[.int .i64 x] 3)).setCell ⟨p.tb, r, none⟩ (.slice (some ⟨w.heap.size, 0, none⟩) 1 1)).heap[k]? = w.heap[k]? := fun k hk hne => (Below.heap_setCell _ _ _ _ hne).trans (ba.block k hk)
  have hrs : ∀ (j : Nat) u k, (rows.set r (.slice (some ⟨w.heap.size, 0, none⟩) 1 1))[j]? = some u → u.ownBlock = some k → (rows[j]? = some u) ∨ k = w.heap.size := fun j u k hj hk => by
    by_cases e : r = j
    · subst e
      rw [List.getElem?_set_self (List.getElem?_eq_some_iff.1 hv).1] at hj
      cases hj
      cases hk
      exact .inr rfl
    · rw [List.getElem?_set_ne e] at hj
      exact .inl hj
  have hfo : ∀ q, q < w.heap.size → foot p (rows.set r (.slice (some ⟨w.heap.size, 0, none⟩) 1 1)) q → foot p rows q := fun q hq hf => by
    rcases hf with h1 | h1 | h1 | h1 | ⟨j, u, hj, hk⟩
    · exact .inl h1
    · exact .inr (.inl h1)
    · exact .inr (.inr (.inl h1))
    · exact .inr (.inr (.inr (.inl h1)))
    · rcases hrs j u q hj hk with h2 | h2
      · exact .inr (.inr (.inr (.inr ⟨j, u, h2, hk⟩)))
      · omega
  refine ⟨⟨v, bcell ba hc⟩, (World.frozen?_of_block (ba.block _ (by show p.tb < _; omega))).trans hf, ⟨{ h.st with f := (hat _ (by have := h.st.ltB.1; omega) (Ne.symm h.st.fst.2.2)).trans h.st.f, u := (hat _ (by have := h.st.ltB.2.1; omega) h.st.ful.2.2.1).trans h.st.u, l := (hat _ (by have := h.st.ltB.2.2.1; omega) h.st.fls.2.1).trans h.st.l, s := (hat _ (by have := h.st.ltB.2.2.2.1; omega) h.st.fst.1).trans h.st.s, rows := hR, nt := by rw [List.length_set]; exact h.st.nt }, h.base, ?_, ?_, ?_, ?_, h.old⟩⟩
  · refine ⟨h.only.os, h.only.tape, h.only.output, by have := h.only.size; simp; omega, fun k hk hf => (hat k (Nat.lt_of_lt_of_le hk h.only.size) fun e => hf (.inl (.inr (.inr (.inr (.inl e)))))).trans (h.only.block k hk hf)⟩
  · intro j u k hj hk
    rcases hrs j u k hj hk with h2 | h2
    · exact h.fr j u k h2 hk
    · exact .inr (by have := h.only.size; omega)
  · exact ownsRow_setCell_below (h.own.alloc _) (by show p.tb < p.B; omega) _
  · intro q hq hf
    exact h.apart q hq (hfo q (h.own.lt q hq).2 hf)
/-- A node is appended. -/
theorem OutSt.app (h : OutSt p n w0 rows0 ov0 w S rows ov out) (x : Node) (hl : out.length < 16777216) :
    ∃ v1 w1, (appSem #[22, 22] 22 #[ov, .slice (some ⟨w.heap.size, 0, none⟩) 1 1]).run Tryd.prog ((w.alloc (.cells #[.int .i64 x.K, .int .i64 x.Least, .int .i64 x.Size, .int .i64 x.Parent] 27)).drew) = .ok v1 w1 ∧
      OutSt p n w0 rows0 ov0 w1 S rows v1 (out ++ [x]) ∧ (∃ A n c, v1 = .slice A n c) ∧ Below p.B w w1 := by
  have hB : p.B ≤ w.heap.size := Nat.le_trans h.base h.only.size
  obtain ⟨i0, hi0, hz0, hz1, hz2⟩ := info_parts Tryd.info42
  obtain ⟨v1, w1, hr, h2, h3, h4, h5⟩ := run_append_own_at (P := Tryd.prog) (w.alloc (.cells #[.int .i64 x.K, .int .i64 x.Least, .int .i64 x.Size, .int .i64 x.Parent] 27)).drew p.B 22 22 27 i0 _ 4 32 Tryd.underlying22 hi0 hz0 hz1 hz2 rfl (by decide) ov out.length _ (h.own.alloc _) ⟨w.heap.size, 0, none⟩ 1 1
    [.int .i64 x.K, .int .i64 x.Least, .int .i64 x.Size, .int .i64 x.Parent] rfl (World.news_of_block (cs := #[.int .i64 x.K, .int .i64 x.Least, .int .i64 x.Size, .int .i64 x.Parent]) (t := 27) (fr := (0, 0)) (heap_alloc_new w _)) (by simp [Value.oneCell']) (by simp only [maxLen]; omega) (by omega) (by simp; omega)
  have hkb : ∀ k, k < w.heap.size → some k ≠ ov.ownBlock → w1.heap[k]? = w.heap[k]? := fun k hk hne => (h3.block k (by simp; omega) hne).trans (Below.heap_alloc w _ k hk)
  have hsz : w.heap.size + 1 ≤ w1.heap.size := by have := h3.size; simpa using this
  have hlow : ∀ k, k < p.B → some k ≠ ov.ownBlock := fun k hk e => by have := (h.own.lt k e.symm).1; omega
  refine ⟨v1, w1, hr, ⟨h.st.kept2 (fun k hk => hkb k (by omega) (hlow k hk)) (fun q hq => hkb q (h.st.foot_lt hB hq) fun e => h.apart q e.symm hq), h.base, ?_, h.fr, ?_, ?_, ?_⟩, ?_, ⟨h3.os, h3.tape, h3.output, by omega, fun k hk => hkb k (by omega) (hlow k hk)⟩⟩
  · refine ⟨h3.os.trans h.only.os, h3.tape.trans h.only.tape, h3.output.trans h.only.output, by have := h.only.size; omega, fun k hk hf => ?_⟩
    refine (hkb k (Nat.lt_of_lt_of_le hk h.only.size) fun e => ?_).trans (h.only.block k hk hf)
    rcases h.old k e.symm with h1 | h1
    · exact hf (.inr h1)
    · omega
  · simpa [nodeCells] using h2
  · intro q hq hf
    rcases h5 with h5 | h5
    · exact h.apart q (h5 ▸ hq) hf
    · rw [h5] at hq
      have h6 := h.st.foot_lt hB hf
      have : w.heap.size + 1 = q := by simpa using hq
      omega
  · intro q hq
    rcases h5 with h5 | h5
    · exact h.old q (h5 ▸ hq)
    · rw [h5] at hq
      have : w.heap.size + 1 = q := by simpa using hq
      have h6 := h.only.size
      exact .inr (by omega)
  · rcases h2.2 with ⟨rfl, _⟩ | ⟨g, cap, cur, rfl, _⟩
    · exact ⟨_, _, _, rfl⟩
    · exact ⟨_, _, _, rfl⟩
end
end Go.Proofs.YtikgdhmnnnicmaaDoor
