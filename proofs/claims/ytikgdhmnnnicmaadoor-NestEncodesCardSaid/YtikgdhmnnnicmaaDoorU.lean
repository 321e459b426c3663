/- The forest of vertices in memory: find, enter. No condition. -/
import Derived.Test.YtikgdhmnnnicmaaDoorR
namespace Go.Proofs.YtikgdhmnnnicmaaDoor
open Go.RowKit
/-- Only blocks of S have turned; new ones may have come. -/
structure Only (S : Nat → Prop) (w w' : World) : Prop where
  os : w'.os = w.os
  tape : w'.tape = w.tape
  output : w'.output = w.output
  size : w.heap.size ≤ w'.heap.size
  block : ∀ k, k < w.heap.size → ¬ S k → w'.heap[k]? = w.heap[k]?
section
variable {S S' : Nat → Prop} {w w1 w2 : World}
theorem Only.refl (S : Nat → Prop) (w : World) : Only S w w := ⟨rfl, rfl, rfl, Nat.le_refl _, fun _ _ _ => rfl⟩
theorem Only.trans (h : Only S w w1) (k : Only S w1 w2) : Only S w w2 :=
  ⟨k.os.trans h.os, k.tape.trans h.tape, k.output.trans h.output, Nat.le_trans h.size k.size, fun i hi hs => (k.block i (Nat.lt_of_lt_of_le hi h.size) hs).trans (h.block i hi hs)⟩
theorem Only.mono (h : Only S w w1) (hS : ∀ k, k < w.heap.size → S k → S' k) : Only S' w w1 := ⟨h.os, h.tape, h.output, h.size, fun k hk hn => h.block k hk fun hs => hn (hS k hk hs)⟩
theorem Only.drew (h : Only S w w1) (n : Nat) : Only S w (w1.drewN n) := ⟨h.os, h.tape, h.output, h.size, h.block⟩
theorem Only.drew1 (h : Only S w w1) : Only S w w1.drew := ⟨h.os, h.tape, h.output, h.size, h.block⟩
theorem Only.set (h : Only S w w1) {a : Addr} (ha : S a.block) (v : Value) : Only S w (w1.setCell a v) :=
  ⟨h.os, h.tape, h.output, by have := h.size; simpa [World.setCell] using this, fun k hk hs => (Below.heap_setCell w1 a v k (fun e => hs (e ▸ ha))).trans (h.block k hk hs)⟩
theorem Only.of_below (h : Below w.heap.size w w1) : Only S w w1 := ⟨h.os, h.tape, h.output, h.size, fun k hk _ => h.block k hk⟩
theorem Only.of_grown {row : Option Nat} (h : w.grownBy w1 row) (hr : ∀ k, row = some k → S k) : Only S w w1 := ⟨h.os, h.tape, h.output, h.size, fun k hk hs => h.block k hk fun e => hs (hr k e.symm)⟩
theorem Only.below {B : Nat} (h : Only S w w1) (hB : B ≤ w.heap.size) (hS : ∀ k, k < B → ¬ S k) : Below B w w1 := ⟨h.os, h.tape, h.output, h.size, fun k hk => h.block k (by omega) (hS k hk)⟩
end
theorem blk_set_ints {w : World} {b : Nat} {xs : List Int} (h : w.heap[b]? = some (.cells (ints xs).toArray 3 (0, 0))) (i : Nat) (x : Int) : (w.setCell ⟨b, i, none⟩ (.int .i64 x)).heap[b]? = some (.cells (ints (xs.set i x)).toArray 3 (0, 0)) := by
  simp [World.setCell, Array.getElem?_modify, h, ints, List.map_set]
theorem blk_int {w : World} {b : Nat} {xs : List Int} (h : w.heap[b]? = some (.cells (ints xs).toArray 3 (0, 0))) (i : Nat) (hi : i < xs.length) : w.cell? ⟨b, i, none⟩ = some (.int .i64 (xs.getD i 0)) ∧ w.frozen? ⟨b, i, none⟩ = false := by
  refine ⟨?_, by simp [World.frozen?, h]⟩
  rw [cell_of_row w b i _ _ (0, 0) h]
  simp [ints, hi]
theorem blk_far_set {w : World} {b g : Nat} {o : Obj} (h : w.heap[g]? = some o) (hne : g ≠ b) (i : Nat) (v : Value) : (w.setCell ⟨b, i, none⟩ v).heap[g]? = some o := (Below.heap_setCell w ⟨b, i, none⟩ v g hne).trans h

/-- The forest's lists. -/
structure UF where
  up : List Int
  least : List Int
  size : List Int
  tops : List (List Int)
/-- Where its blocks lie. -/
structure At where
  fb : Nat
  ub : Nat
  lb : Nat
  sb : Nat
  tb : Nat
  B : Nat
/-- The structure at fb holds the four lists of n places each. -/
structure FSt (p : At) (n : Nat) (w : World) (S : UF) (rows : List Value) : Prop where
  f : w.heap[p.fb]? = some (.cells #[.slice (some ⟨p.ub, 0, none⟩) n n, .slice (some ⟨p.lb, 0, none⟩) n n, .slice (some ⟨p.sb, 0, none⟩) n n, .slice (some ⟨p.tb, 0, none⟩) n n] 69 (0, 0))
  u : w.heap[p.ub]? = some (.cells (ints S.up).toArray 3 (0, 0))
  l : w.heap[p.lb]? = some (.cells (ints S.least).toArray 3 (0, 0))
  s : w.heap[p.sb]? = some (.cells (ints S.size).toArray 3 (0, 0))
  rows : Rows w p.B p.tb rows S.tops
  nu : S.up.length = n
  nl : S.least.length = n
  ns : S.size.length = n
  nt : S.tops.length = n
  ltB : p.fb < p.B ∧ p.ub < p.B ∧ p.lb < p.B ∧ p.sb < p.B ∧ p.tb < p.B
  ful : p.ub ≠ p.lb ∧ p.ub ≠ p.sb ∧ p.ub ≠ p.tb ∧ p.ub ≠ p.fb
  fls : p.lb ≠ p.sb ∧ p.lb ≠ p.tb ∧ p.lb ≠ p.fb
  fst : p.sb ≠ p.tb ∧ p.sb ≠ p.fb ∧ p.tb ≠ p.fb
theorem FSt.kept {p : At} {n : Nat} {w w' : World} {S : UF} {rows : List Value} (h : FSt p n w S rows) (hk : ∀ k, k < p.B → w'.heap[k]? = w.heap[k]?) (hr : ∀ k, p.B ≤ k → k < w.heap.size → w'.heap[k]? = w.heap[k]?) : FSt p n w' S rows :=
  { h with f := (hk _ h.ltB.1).trans h.f, u := (hk _ h.ltB.2.1).trans h.u, l := (hk _ h.ltB.2.2.1).trans h.l, s := (hk _ h.ltB.2.2.2.1).trans h.s, rows := h.rows.kept (hk _ h.ltB.2.2.2.2) hr }
theorem FSt.setUp {p : At} {n : Nat} {w : World} {S : UF} {rows : List Value} (h : FSt p n w S rows) (i : Nat) (x : Int) : FSt p n (w.setCell ⟨p.ub, i, none⟩ (.int .i64 x)) { S with up := S.up.set i x } rows :=
  { h with
    f := blk_far_set h.f (Ne.symm h.ful.2.2.2) _ _, u := blk_set_ints h.u i x, l := blk_far_set h.l (Ne.symm h.ful.1) _ _, s := blk_far_set h.s (Ne.symm h.ful.2.1) _ _
    rows := h.rows.kept (Below.heap_setCell _ _ _ _ (Ne.symm h.ful.2.2.1)) fun k hk _ => Below.heap_setCell _ _ _ _ (by have := h.ltB.2.1; intro e; subst e; exact absurd hk (by show ¬ p.B ≤ p.ub; omega))
    nu := by rw [List.length_set]; exact h.nu }
theorem FSt.setLeast {p : At} {n : Nat} {w : World} {S : UF} {rows : List Value} (h : FSt p n w S rows) (i : Nat) (x : Int) : FSt p n (w.setCell ⟨p.lb, i, none⟩ (.int .i64 x)) { S with least := S.least.set i x } rows :=
  { h with
    f := blk_far_set h.f (Ne.symm h.fls.2.2) _ _, u := blk_far_set h.u h.ful.1 _ _, l := blk_set_ints h.l i x, s := blk_far_set h.s (Ne.symm h.fls.1) _ _
    rows := h.rows.kept (Below.heap_setCell _ _ _ _ (Ne.symm h.fls.2.1)) fun k hk _ => Below.heap_setCell _ _ _ _ (by have := h.ltB.2.2.1; intro e; subst e; exact absurd hk (by show ¬ p.B ≤ p.lb; omega))
    nl := by rw [List.length_set]; exact h.nl }
theorem FSt.setSize {p : At} {n : Nat} {w : World} {S : UF} {rows : List Value} (h : FSt p n w S rows) (i : Nat) (x : Int) : FSt p n (w.setCell ⟨p.sb, i, none⟩ (.int .i64 x)) { S with size := S.size.set i x } rows :=
  { h with
    f := blk_far_set h.f (Ne.symm h.fst.2.1) _ _, u := blk_far_set h.u h.ful.2.1 _ _, l := blk_far_set h.l h.fls.1 _ _, s := blk_set_ints h.s i x
    rows := h.rows.kept (Below.heap_setCell _ _ _ _ (Ne.symm h.fst.1)) fun k hk _ => Below.heap_setCell _ _ _ _ (by have := h.ltB.2.2.2.1; intro e; subst e; exact absurd hk (by show ¬ p.B ≤ p.sb; omega))
    ns := by rw [List.length_set]; exact h.ns }
theorem FSt.drewN {p : At} {n : Nat} {w : World} {S : UF} {rows : List Value} (h : FSt p n w S rows) (m : Nat) : FSt p n (w.drewN m) S rows := h.kept (fun _ _ => rfl) (fun _ _ _ => rfl)

theorem FSt.drew1 {p : At} {n : Nat} {w : World} {S : UF} {rows : List Value} (h : FSt p n w S rows) : FSt p n w.drew S rows := h.kept (fun _ _ => rfl) (fun _ _ _ => rfl)

/-- find, as the text goes; none: out of rounds, or out of the lists. -/
def findF : Nat → List Int → Nat → Option (List Int × Nat)
  | 0, _, _ => none
  | k + 1, up, v =>
    if v < up.length then
      if up.getD v 0 = v then some (up, v)
      else if 0 ≤ up.getD v 0 ∧ (up.getD v 0).toNat < up.length ∧ 0 ≤ up.getD (up.getD v 0).toNat 0 then findF k (up.set v (up.getD (up.getD v 0).toNat 0)) (up.getD (up.getD v 0).toNat 0).toNat
      else none
    else none
/-- What find leaves. -/
def FindPost (p : At) (n : Nat) (w : World) (S : UF) (rows : List Value) (up' : List Int) (r : Nat) (e : Ending) (w' : World) : Prop :=
  e = .returned (.int .i64 r) ∧ FSt p n w' { S with up := up' } rows ∧ Only (· = p.ub) w w'
set_option maxHeartbeats 1000000 in
set_option maxRecDepth 100000 in
theorem find_any {p : At} {n : Nat} {w : World} {S : UF} {rows : List Value} {v k r : Nat} {up' : List Int} (hF : FSt p n w S rows) (hf : findF k S.up v = some (up', r)) :
    Calls Tryd.prog 44 #[.pointer (some ⟨p.fb, 0, none⟩), .int .i64 v] w (FindPost p n w S rows up' r) := by
  have HF := Aside.mk hF
  have Hf := Aside.mk hf
  clear hF hf
  go_enter Tryd.func44, Tryd.ntmps44
  go_wp2
  go_loopg [1] k (fun kq iv wr => ∃ (v : Nat) (up : List Int), iv = .int .i64 v ∧ Aside (findF kq up v = some (up', r)) ∧ Aside (FSt p n wr { S with up := up } rows) ∧ Aside (Only (· = p.ub) w wr))
  case atStart => exact ⟨v, S.up, rfl, Hf, HF, ⟨Only.refl _ _⟩⟩
  case round =>
    clear HF Hf
    obtain ⟨v, up, rfl, Hf, HF, HO⟩ := hrel
    cases gk with
    | zero => exact absurd Hf.out (by simp [findF])
    | succ k1 =>
      have hnu : up.length = n := HF.out.nu
      have hf := Hf.out
      simp only [findF] at hf
      have hv : v < up.length := by
        by_cases hv : v < up.length
        · exact hv
        · rw [if_neg hv] at hf; cases hf
      rw [if_pos hv] at hf
      have c0 : wr.cell? ⟨p.fb, 0, none⟩ = some (.slice (some ⟨p.ub, 0, none⟩) n n) := cell_blk HF.out.f rfl
      obtain ⟨cv, fv⟩ := blk_int HF.out.u v hv
      have hvn : v < n := by omega
      by_cases h1 : up.getD v 0 = v
      · rw [if_pos h1] at hf
        rw [h1] at cv
        simp only [Option.some.injEq, Prod.mk.injEq] at hf
        obtain ⟨rfl, rfl⟩ := hf
        have hd : ((v : Int) != (v : Int)) = false := by simp
        clear h1 Hf
        go_wp2
        go_ret
        exact ⟨rfl, HF.out, HO.out⟩
      · rw [if_neg h1] at hf
        by_cases h2 : 0 ≤ up.getD v 0 ∧ (up.getD v 0).toNat < up.length ∧ 0 ≤ up.getD (up.getD v 0).toNat 0
        · rw [if_pos h2] at hf
          obtain ⟨h3, h4, h5⟩ := h2
          generalize hx : up.getD v 0 = x at *
          obtain ⟨q, rfl⟩ := Int.eq_ofNat_of_zero_le h3
          rw [Int.toNat_natCast] at h4 h5 hf
          obtain ⟨cq, fq⟩ := blk_int HF.out.u q h4
          generalize hy : up.getD q 0 = y at *
          obtain ⟨g, rfl⟩ := Int.eq_ofNat_of_zero_le h5
          rw [Int.toNat_natCast] at hf
          have hqn : q < n := by omega
          have hne : ((q : Int) != (v : Int)) = true := by simp; omega
          have HF2 := Aside.mk (HF.out.setUp v g)
          have HO2 := Aside.mk (HO.out.set (a := ⟨p.ub, v, none⟩) rfl (.int .i64 g))
          have Hf2 := Aside.mk hf
          have c00 := HF.out.ful.2.2.2
          clear hf Hf hx hy h1 h3 h5
          go_wp2
          go_region
          go_wp2
          go_roundg k1
          case measure => omega
          case rel => exact ⟨g, _, rfl, Hf2, ⟨HF2.out.drewN 1⟩, ⟨HO2.out.drew 1⟩⟩
        · rw [if_neg h2] at hf
          cases hf
/-- What enter leaves. -/
def EnterPost (p : At) (n : Nat) (w : World) (S : UF) (rows : List Value) (v : Nat) (e : Ending) (w' : World) : Prop :=
  e = .returned (.tuple #[]) ∧ FSt p n w' { S with up := S.up.set v v, least := S.least.set v v, size := S.size.set v 1 } rows ∧ Only (fun k => k = p.ub ∨ k = p.lb ∨ k = p.sb) w w'
set_option maxHeartbeats 1000000 in
set_option maxRecDepth 100000 in
theorem enter_any {p : At} {n : Nat} {w : World} {S : UF} {rows : List Value} {v : Nat} (hF : FSt p n w S rows) (hv : v < n) :
    Calls Tryd.prog 41 #[.pointer (some ⟨p.fb, 0, none⟩), .int .i64 v] w (EnterPost p n w S rows v) := by
  have c0 : w.cell? ⟨p.fb, 0, none⟩ = some (.slice (some ⟨p.ub, 0, none⟩) n n) := cell_blk hF.f rfl
  have c1 : w.cell? ⟨p.fb, 1, none⟩ = some (.slice (some ⟨p.lb, 0, none⟩) n n) := cell_blk hF.f rfl
  have c2 : w.cell? ⟨p.fb, 2, none⟩ = some (.slice (some ⟨p.sb, 0, none⟩) n n) := cell_blk hF.f rfl
  obtain ⟨cu, fu⟩ := blk_int hF.u v (by rw [hF.nu]; exact hv)
  obtain ⟨cl, fl⟩ := blk_int hF.l v (by rw [hF.nl]; exact hv)
  obtain ⟨cs, fs⟩ := blk_int hF.s v (by rw [hF.ns]; exact hv)
  generalize S.up.getD v 0 = x1 at cu
  generalize S.least.getD v 0 = x2 at cl
  generalize S.size.getD v 0 = x3 at cs
  have HF := Aside.mk (((hF.setUp v v).setLeast v v).setSize v 1)
  have HO := Aside.mk ((((Only.refl (fun k => k = p.ub ∨ k = p.lb ∨ k = p.sb) w).set (a := ⟨p.ub, v, none⟩) (.inl rfl) (.int .i64 v)).set (a := ⟨p.lb, v, none⟩) (.inr (.inl rfl)) (.int .i64 v)).set (a := ⟨p.sb, v, none⟩) (.inr (.inr rfl)) (.int .i64 1))
  obtain ⟨d1, d2, d3, d4⟩ := hF.ful
  obtain ⟨d5, d6, d7⟩ := hF.fls
  obtain ⟨d8, d9, _⟩ := hF.fst
  have e1 := Ne.symm d1
  have e2 := Ne.symm d2
  have e3 := Ne.symm d5
  clear hF
  go_enter Tryd.func41, Tryd.ntmps41
  go_region
  go_end0
  exact ⟨rfl, HF.out.drewN 1, HO.out.drew 1⟩
/-- unite, as the text goes. -/
def uniteF (k : Nat) (S : UF) (u v : Nat) : Option UF :=
  (findF k S.up u).bind fun a => (findF k a.1 v).bind fun b =>
    if a.2 = b.2 then some { S with up := b.1 }
    else
      let x := if S.size.getD a.2 0 < S.size.getD b.2 0 then b.2 else a.2
      let y := if S.size.getD a.2 0 < S.size.getD b.2 0 then a.2 else b.2
      if (S.tops.getD x []).length + (S.tops.getD y []).length ≤ 16777216 then some { up := b.1.set y x, least := S.least.set x (min (S.least.getD x 0) (S.least.getD y 0)), size := S.size.set x (wrap64 (S.size.getD x 0 + S.size.getD y 0)), tops := S.tops.set x (S.tops.getD x [] ++ S.tops.getD y []) } else none
theorem findF_lt {k : Nat} {up up' : List Int} {v r : Nat} (h : findF k up v = some (up', r)) : up'.length = up.length ∧ r < up.length := by
  induction k generalizing up v with
  | zero => simp [findF] at h
  | succ k ih =>
    simp only [findF] at h
    split at h
    · split at h
      · simp only [Option.some.injEq, Prod.mk.injEq] at h
        obtain ⟨rfl, rfl⟩ := h
        exact ⟨rfl, by assumption⟩
      · split at h
        · have := ih h
          simpa using this
        · cases h
    · cases h
/-- The blocks of the forest that may turn. -/
def foot (p : At) (rows : List Value) (k : Nat) : Prop := k = p.ub ∨ k = p.lb ∨ k = p.sb ∨ k = p.tb ∨ ∃ (j : Nat) (u : Value), rows[j]? = some u ∧ u.ownBlock = some k
/-- The rows' blocks are those of rows0, or new. -/
def RowsFrom (N : Nat) (rows0 rows : List Value) : Prop := ∀ (j : Nat) u k, rows[j]? = some u → u.ownBlock = some k → (∃ (i : Nat) (v : Value), rows0[i]? = some v ∧ v.ownBlock = some k) ∨ N ≤ k
theorem RowsFrom.refl (N : Nat) (rows : List Value) : RowsFrom N rows rows := fun j u _ h1 h2 => .inl ⟨j, u, h1, h2⟩
theorem RowsFrom.trans {N N' : Nat} {r0 r1 r2 : List Value} (h : RowsFrom N r0 r1) (k : RowsFrom N' r1 r2) (hN : N ≤ N') : RowsFrom N r0 r2 := fun j u q h1 h2 => by
  rcases k j u q h1 h2 with ⟨i, v, h3, h4⟩ | h3
  · exact h i v q h3 h4
  · exact .inr (by omega)
theorem Only.chain {p : At} {w w1 w2 : World} {r0 r1 : List Value} (h : Only (foot p r0) w w1) (hr : RowsFrom w.heap.size r0 r1) (k : Only (foot p r1) w1 w2) : Only (foot p r0) w w2 := by
  refine ⟨k.os.trans h.os, k.tape.trans h.tape, k.output.trans h.output, Nat.le_trans h.size k.size, fun i hi hs => (k.block i (Nat.lt_of_lt_of_le hi h.size) fun hf => hs ?_).trans (h.block i hi hs)⟩
  rcases hf with hf | hf | hf | hf | ⟨j, u, h1, h2⟩
  · exact .inl hf
  · exact .inr (.inl hf)
  · exact .inr (.inr (.inl hf))
  · exact .inr (.inr (.inr (.inl hf)))
  · rcases hr j u i h1 h2 with h3 | h3
    · exact .inr (.inr (.inr (.inr h3)))
    · omega
/-- What unite leaves. -/
def UnitePost (p : At) (n : Nat) (w : World) (S' : UF) (rows : List Value) (e : Ending) (w' : World) : Prop :=
  ∃ rows', e = .returned (.tuple #[]) ∧ FSt p n w' S' rows' ∧ Only (foot p rows) w w' ∧ RowsFrom w.heap.size rows rows'
attribute [local go_sem ↓] append_open
set_option maxHeartbeats 8000000 in
set_option maxRecDepth 100000 in
theorem unite_any {p : At} {n : Nat} {w : World} {S S' : UF} {rows : List Value} {u v k : Nat} (hF : FSt p n w S rows) (hB : p.B ≤ w.heap.size) (hf : uniteF k S u v = some S') :
    Calls Tryd.prog 43 #[.pointer (some ⟨p.fb, 0, none⟩), .int .i64 u, .int .i64 v] w (UnitePost p n w S' rows) := by
  unfold uniteF at hf
  obtain ⟨⟨up1, ru⟩, h1, hf⟩ := Option.bind_eq_some_iff.1 hf
  obtain ⟨⟨up2, rv⟩, h2, hf⟩ := Option.bind_eq_some_iff.1 hf
  have l1 := findF_lt h1
  have l2 := findF_lt h2
  have hn := hF.nu
  simp only at hf l1 l2 h2
  have hru : ru < n := by omega
  have hrv : rv < n := by omega
  have HBw := Aside.mk hB
  have Hf := Aside.mk hf
  have con1 := find_any hF h1
  clear hF hf h1 l1 l2 hn
  go_enter Tryd.func43, Tryd.ntmps43
  go_wp2_with fail
  refine con1.mono ?_
  clear con1
  rintro e w1 ⟨rfl, hF1, hO1⟩
  have con2 := find_any hF1 h2
  have HO1 := Aside.mk hO1
  clear hF1 hO1 h2
  go_wp2_with fail
  refine con2.mono ?_
  clear con2
  rintro e w2 ⟨rfl, hF2, hO2⟩
  have HO2 := Aside.mk (HO1.out.trans hO2)
  have HB2 : Aside (p.B ≤ w2.heap.size) := ⟨by have := HO2.out.size; omega⟩
  have HF2 := Aside.mk hF2
  clear hF2 hO2 HO1
  by_cases hr : ru = rv
  · have hb : ((ru : Int) == (rv : Int)) = true := by simp [hr]
    have hf := Hf.out
    rw [if_pos hr] at hf
    cases hf
    clear Hf hr
    go_wp2
    go_end0
    exact ⟨rows, rfl, HF2.out, HO2.out.mono (fun k _ hk => .inl hk), RowsFrom.refl _ _⟩
  · have hb : ((ru : Int) == (rv : Int)) = false := by simp; omega
    have hf := Hf.out
    rw [if_neg hr] at hf
    have c2 : w2.cell? ⟨p.fb, 2, none⟩ = some (.slice (some ⟨p.sb, 0, none⟩) n n) := cell_blk HF2.out.f rfl
    obtain ⟨csu, fsu⟩ := blk_int HF2.out.s ru (by have := HF2.out.ns; simp at this ⊢; omega)
    obtain ⟨csv, fsv⟩ := blk_int HF2.out.s rv (by have := HF2.out.ns; simp at this ⊢; omega)
    generalize hsu : S.size.getD ru 0 = su at csu hf
    generalize hsv : S.size.getD rv 0 = sv at csv hf
    have hne := hr
    clear hr Hf
    have Hsz := Aside.mk (And.intro hsu hsv)
    clear hsu hsv
    by_cases hs : su < sv
    · have hsb : decide (su < sv) = true := decide_eq_true hs
      rw [if_pos hs, if_pos hs] at hf
      have hsum : (S.tops.getD rv []).length + (S.tops.getD ru []).length ≤ 16777216 := by
        by_cases h : (S.tops.getD rv []).length + (S.tops.getD ru []).length ≤ 16777216
        · exact h
        · rw [if_neg h] at hf; cases hf
      rw [if_pos hsum] at hf
      have Hsum := Aside.mk hsum
      clear hsum
      have Hf := Aside.mk hf
      clear hf
      go_wp2
      go_quiet (fail)
      have c0 : w2.cell? ⟨p.fb, 0, none⟩ = some (.slice (some ⟨p.ub, 0, none⟩) n n) := cell_blk HF2.out.f rfl
      obtain ⟨cuy, fuy⟩ := blk_int HF2.out.u ru (by have := HF2.out.nu; simp at this ⊢; omega)
      generalize up2.getD ru 0 = xuy at cuy
      go_wp2
      have hF3 := (HF2.out.drewN nq).setUp ru rv
      have hO3 := ((HO2.out.mono (S' := foot p rows) (fun k _ hk => .inl hk)).drew nq).set (a := ⟨p.ub, ru, none⟩) (.inl rfl) (.int .i64 rv)
      clear c0 c2 csu csv cuy fuy fsu fsv
      generalize (w2.drewN nq).setCell ⟨p.ub, ru, none⟩ (.int .i64 rv) = w3 at *
      have c1 : w3.cell? ⟨p.fb, 1, none⟩ = some (.slice (some ⟨p.lb, 0, none⟩) n n) := cell_blk hF3.f rfl
      obtain ⟨clx, flx⟩ := blk_int hF3.l rv (by have := hF3.nl; simp at this ⊢; omega)
      obtain ⟨cly, fly⟩ := blk_int hF3.l ru (by have := hF3.nl; simp at this ⊢; omega)
      generalize hlx : S.least.getD rv 0 = lx at clx
      generalize hly : S.least.getD ru 0 = ly at cly
      have HL := Aside.mk (And.intro hlx hly)
      have HF3 := Aside.mk hF3
      have HO3 := Aside.mk hO3
      clear hF3 hO3 hlx hly
      go_cut [] (fun wx => wx = (w3.setCell ⟨p.lb, rv, none⟩ (.int .i64 (min lx ly))).drew)
      case first =>
        go_region
        go_wp2
        go_meet
        case rel => rfl
      case rest =>
        have hF4 := (HF3.out.setLeast rv (min lx ly)).drew1
        have hO4 := (HO3.out.set (a := ⟨p.lb, rv, none⟩) (.inr (.inl rfl)) (.int .i64 (min lx ly))).drew1
        clear c1 clx cly flx fly HF3 HO3
        rw [← hcut] at hF4 hO4
        clear hcut
        go_wp2
        have c2 : wc.cell? ⟨p.fb, 2, none⟩ = some (.slice (some ⟨p.sb, 0, none⟩) n n) := cell_blk hF4.f rfl
        obtain ⟨csx, fsx⟩ := blk_int hF4.s rv (by have := hF4.ns; simp at this ⊢; omega)
        obtain ⟨csy, fsy⟩ := blk_int hF4.s ru (by have := hF4.ns; simp at this ⊢; omega)
        simp only at csx csy
        rw [Hsz.out.2] at csx
        rw [Hsz.out.1] at csy
        have HF4 := Aside.mk hF4
        have HO4 := Aside.mk hO4
        clear hF4 hO4
        obtain ⟨w4, rfl⟩ : ∃ w4, w4 = wc := ⟨_, rfl⟩
        go_cut [] (fun wx => wx = (w4.setCell ⟨p.sb, rv, none⟩ (.int .i64 (wrap64 (sv + su)))).drew)
        case first =>
          go_region
          go_wp2
          go_meet
          case rel => rfl
        case rest =>
          have hF5 := (HF4.out.setSize rv (wrap64 (sv + su))).drew1
          have hO5 := (HO4.out.set (a := ⟨p.sb, rv, none⟩) (.inr (.inr (.inl rfl))) (.int .i64 (wrap64 (sv + su)))).drew1
          clear c2 csx csy fsx fsy HF4 HO4
          rw [← hcut] at hF5 hO5
          clear hcut
          go_wp2
          obtain ⟨w5, rfl⟩ : ∃ w5, w5 = wc := ⟨_, rfl⟩
          have c3 : w5.cell? ⟨p.fb, 3, none⟩ = some (.slice (some ⟨p.tb, 0, none⟩) n n) := cell_blk hF5.f rfl
          have hX : rv < S.tops.length := by have := hF5.nt; simp at this ⊢; omega
          have hY : ru < S.tops.length := by have := hF5.nt; simp at this ⊢; omega
          have hB5 : p.B ≤ w5.heap.size := by have := hO5.size; have := HBw.out; omega
          obtain ⟨v0, u0, v1, w6, hc0, hcu, hrun, hc1, hf1, ⟨A1, n1, c1, rfl⟩, hrow, hg6, hR7, hat⟩ := hF5.rows.cat rv ru hX hY (by
            have h1 := Hsum.out
            rw [List.getD_eq_getElem?_getD, List.getD_eq_getElem?_getD, List.getElem?_eq_getElem hX, List.getElem?_eq_getElem hY, Option.getD_some, Option.getD_some] at h1
            show (S.tops[rv].length + S.tops[ru].length) * 8 ≤ _
            omega) hB5
          have hlt5 := hF5.ltB
          have how := (hF5.rows.own rv v0 _ hrow (List.getElem?_eq_getElem hX)).lt
          have hk6 : ∀ q, q < p.B → w6.heap[q]? = w5.heap[q]? := fun q hq => hg6.block q (by omega) (fun e => by have := (how q e.symm).1; omega)
          have c36 : w6.cell? ⟨p.fb, 3, none⟩ = some (.slice (some ⟨p.tb, 0, none⟩) n n) := (World.cell?_of_block (hk6 p.fb (by omega))).trans c3
          have hpost : Aside (UnitePost p n w S' rows (.returned (.tuple #[])) (w6.setCell ⟨p.tb, rv, none⟩ (.slice A1 n1 c1))) := by
            constructor
            obtain ⟨hlx, hly⟩ := HL.out
            obtain ⟨hsu, hsv⟩ := Hsz.out
            have hf := Hf.out
            have hst : ∀ q, q ≠ p.tb → (w6.setCell ⟨p.tb, rv, none⟩ (.slice A1 n1 c1)).heap[q]? = w6.heap[q]? := fun q hq => Below.heap_setCell w6 ⟨p.tb, rv, none⟩ _ q hq
            refine ⟨rows.set rv (.slice A1 n1 c1), rfl, ?_, ?_, ?_⟩
            · have hS : S' = { up := up2.set ru rv, least := S.least.set rv (min lx ly), size := S.size.set rv (wrap64 (sv + su)), tops := S.tops.set rv (S.tops[rv] ++ S.tops[ru]) } := by
                rw [← Option.some.inj hf]
                simp only [hlx, hly, hsu, hsv, List.getD_eq_getElem?_getD, List.getElem?_eq_getElem hX, List.getElem?_eq_getElem hY, Option.getD_some]
              rw [hS]
              exact { f := (hst _ (Ne.symm hF5.fst.2.2)).trans ((hk6 _ hlt5.1).trans hF5.f), u := (hst _ hF5.ful.2.2.1).trans ((hk6 _ hlt5.2.1).trans hF5.u), l := (hst _ hF5.fls.2.1).trans ((hk6 _ hlt5.2.2.1).trans hF5.l), s := (hst _ hF5.fst.1).trans ((hk6 _ hlt5.2.2.2.1).trans hF5.s), rows := hR7, nu := hF5.nu, nl := hF5.nl, ns := hF5.ns, nt := by rw [List.length_set]; exact hF5.nt, ltB := hF5.ltB, ful := hF5.ful, fls := hF5.fls, fst := hF5.fst }
            · exact (hO5.trans (Only.of_grown hg6 (fun q e => .inr (.inr (.inr (.inr ⟨rv, v0, hrow, e⟩)))))).set (a := ⟨p.tb, rv, none⟩) (.inr (.inr (.inr (.inl rfl)))) _
            · intro j q z hj hz
              by_cases hij : rv = j
              · subst hij
                rw [List.getElem?_set_self (List.getElem?_eq_some_iff.1 hrow).1] at hj
                cases hj
                rcases hat z hz with e | e
                · exact .inl ⟨rv, v0, hrow, e⟩
                · exact .inr (by have := hO5.size; omega)
              · rw [List.getElem?_set_ne hij] at hj
                exact .inl ⟨j, q, hj, hz⟩
          clear hF5 hO5 hR7 hat hk6 hg6 hlt5 how hB5 hrow
          go_region
          go_end0
          exact hpost.out
    · have hsb : decide (su < sv) = false := decide_eq_false hs
      rw [if_neg hs, if_neg hs] at hf
      have hsum : (S.tops.getD ru []).length + (S.tops.getD rv []).length ≤ 16777216 := by
        by_cases h : (S.tops.getD ru []).length + (S.tops.getD rv []).length ≤ 16777216
        · exact h
        · rw [if_neg h] at hf; cases hf
      rw [if_pos hsum] at hf
      have Hsum := Aside.mk hsum
      clear hsum
      have Hf := Aside.mk hf
      clear hf
      go_wp2
      go_quiet (fail)
      have c0 : w2.cell? ⟨p.fb, 0, none⟩ = some (.slice (some ⟨p.ub, 0, none⟩) n n) := cell_blk HF2.out.f rfl
      obtain ⟨cuy, fuy⟩ := blk_int HF2.out.u rv (by have := HF2.out.nu; simp at this ⊢; omega)
      generalize up2.getD rv 0 = xuy at cuy
      go_wp2
      have hF3 := (HF2.out.drewN nq).setUp rv ru
      have hO3 := ((HO2.out.mono (S' := foot p rows) (fun k _ hk => .inl hk)).drew nq).set (a := ⟨p.ub, rv, none⟩) (.inl rfl) (.int .i64 ru)
      clear c0 c2 csu csv cuy fuy fsu fsv
      generalize (w2.drewN nq).setCell ⟨p.ub, rv, none⟩ (.int .i64 ru) = w3 at *
      have c1 : w3.cell? ⟨p.fb, 1, none⟩ = some (.slice (some ⟨p.lb, 0, none⟩) n n) := cell_blk hF3.f rfl
      obtain ⟨clx, flx⟩ := blk_int hF3.l ru (by have := hF3.nl; simp at this ⊢; omega)
      obtain ⟨cly, fly⟩ := blk_int hF3.l rv (by have := hF3.nl; simp at this ⊢; omega)
      generalize hlx : S.least.getD ru 0 = lx at clx
      generalize hly : S.least.getD rv 0 = ly at cly
      have HL := Aside.mk (And.intro hlx hly)
      have HF3 := Aside.mk hF3
      have HO3 := Aside.mk hO3
      clear hF3 hO3 hlx hly
      go_cut [] (fun wx => wx = (w3.setCell ⟨p.lb, ru, none⟩ (.int .i64 (min lx ly))).drew)
      case first =>
        go_region
        go_wp2
        go_meet
        case rel => rfl
      case rest =>
        have hF4 := (HF3.out.setLeast ru (min lx ly)).drew1
        have hO4 := (HO3.out.set (a := ⟨p.lb, ru, none⟩) (.inr (.inl rfl)) (.int .i64 (min lx ly))).drew1
        clear c1 clx cly flx fly HF3 HO3
        rw [← hcut] at hF4 hO4
        clear hcut
        go_wp2
        have c2 : wc.cell? ⟨p.fb, 2, none⟩ = some (.slice (some ⟨p.sb, 0, none⟩) n n) := cell_blk hF4.f rfl
        obtain ⟨csx, fsx⟩ := blk_int hF4.s ru (by have := hF4.ns; simp at this ⊢; omega)
        obtain ⟨csy, fsy⟩ := blk_int hF4.s rv (by have := hF4.ns; simp at this ⊢; omega)
        simp only at csx csy
        rw [Hsz.out.1] at csx
        rw [Hsz.out.2] at csy
        have HF4 := Aside.mk hF4
        have HO4 := Aside.mk hO4
        clear hF4 hO4
        obtain ⟨w4, rfl⟩ : ∃ w4, w4 = wc := ⟨_, rfl⟩
        go_cut [] (fun wx => wx = (w4.setCell ⟨p.sb, ru, none⟩ (.int .i64 (wrap64 (su + sv)))).drew)
        case first =>
          go_region
          go_wp2
          go_meet
          case rel => rfl
        case rest =>
          have hF5 := (HF4.out.setSize ru (wrap64 (su + sv))).drew1
          have hO5 := (HO4.out.set (a := ⟨p.sb, ru, none⟩) (.inr (.inr (.inl rfl))) (.int .i64 (wrap64 (su + sv)))).drew1
          clear c2 csx csy fsx fsy HF4 HO4
          rw [← hcut] at hF5 hO5
          clear hcut
          go_wp2
          obtain ⟨w5, rfl⟩ : ∃ w5, w5 = wc := ⟨_, rfl⟩
          have c3 : w5.cell? ⟨p.fb, 3, none⟩ = some (.slice (some ⟨p.tb, 0, none⟩) n n) := cell_blk hF5.f rfl
          have hX : ru < S.tops.length := by have := hF5.nt; simp at this ⊢; omega
          have hY : rv < S.tops.length := by have := hF5.nt; simp at this ⊢; omega
          have hB5 : p.B ≤ w5.heap.size := by have := hO5.size; have := HBw.out; omega
          obtain ⟨v0, u0, v1, w6, hc0, hcu, hrun, hc1, hf1, ⟨A1, n1, c1, rfl⟩, hrow, hg6, hR7, hat⟩ := hF5.rows.cat ru rv hX hY (by
            have h1 := Hsum.out
            rw [List.getD_eq_getElem?_getD, List.getD_eq_getElem?_getD, List.getElem?_eq_getElem hX, List.getElem?_eq_getElem hY, Option.getD_some, Option.getD_some] at h1
            show (S.tops[ru].length + S.tops[rv].length) * 8 ≤ _
            omega) hB5
          have hlt5 := hF5.ltB
          have how := (hF5.rows.own ru v0 _ hrow (List.getElem?_eq_getElem hX)).lt
          have hk6 : ∀ q, q < p.B → w6.heap[q]? = w5.heap[q]? := fun q hq => hg6.block q (by omega) (fun e => by have := (how q e.symm).1; omega)
          have c36 : w6.cell? ⟨p.fb, 3, none⟩ = some (.slice (some ⟨p.tb, 0, none⟩) n n) := (World.cell?_of_block (hk6 p.fb (by omega))).trans c3
          have hpost : Aside (UnitePost p n w S' rows (.returned (.tuple #[])) (w6.setCell ⟨p.tb, ru, none⟩ (.slice A1 n1 c1))) := by
            constructor
            obtain ⟨hlx, hly⟩ := HL.out
            obtain ⟨hsu, hsv⟩ := Hsz.out
            have hf := Hf.out
            have hst : ∀ q, q ≠ p.tb → (w6.setCell ⟨p.tb, ru, none⟩ (.slice A1 n1 c1)).heap[q]? = w6.heap[q]? := fun q hq => Below.heap_setCell w6 ⟨p.tb, ru, none⟩ _ q hq
            refine ⟨rows.set ru (.slice A1 n1 c1), rfl, ?_, ?_, ?_⟩
            · have hS : S' = { up := up2.set rv ru, least := S.least.set ru (min lx ly), size := S.size.set ru (wrap64 (su + sv)), tops := S.tops.set ru (S.tops[ru] ++ S.tops[rv]) } := by
                rw [← Option.some.inj hf]
                simp only [hlx, hly, hsu, hsv, List.getD_eq_getElem?_getD, List.getElem?_eq_getElem hX, List.getElem?_eq_getElem hY, Option.getD_some]
              rw [hS]
              exact { f := (hst _ (Ne.symm hF5.fst.2.2)).trans ((hk6 _ hlt5.1).trans hF5.f), u := (hst _ hF5.ful.2.2.1).trans ((hk6 _ hlt5.2.1).trans hF5.u), l := (hst _ hF5.fls.2.1).trans ((hk6 _ hlt5.2.2.1).trans hF5.l), s := (hst _ hF5.fst.1).trans ((hk6 _ hlt5.2.2.2.1).trans hF5.s), rows := hR7, nu := hF5.nu, nl := hF5.nl, ns := hF5.ns, nt := by rw [List.length_set]; exact hF5.nt, ltB := hF5.ltB, ful := hF5.ful, fls := hF5.fls, fst := hF5.fst }
            · exact (hO5.trans (Only.of_grown hg6 (fun q e => .inr (.inr (.inr (.inr ⟨ru, v0, hrow, e⟩)))))).set (a := ⟨p.tb, ru, none⟩) (.inr (.inr (.inr (.inl rfl)))) _
            · intro j q z hj hz
              by_cases hij : ru = j
              · subst hij
                rw [List.getElem?_set_self (List.getElem?_eq_some_iff.1 hrow).1] at hj
                cases hj
                rcases hat z hz with e | e
                · exact .inl ⟨ru, v0, hrow, e⟩
                · exact .inr (by have := hO5.size; omega)
              · rw [List.getElem?_set_ne hij] at hj
                exact .inl ⟨j, q, hj, hz⟩
          clear hF5 hO5 hR7 hat hk6 hg6 hlt5 how hB5 hrow
          go_region
          go_end0
          exact hpost.out
end Go.Proofs.YtikgdhmnnnicmaaDoor
