/- The law's edited: whatever the edits, what comes out are lists of bytes of its own, not too many. No condition. -/
import Derived.Test.YtgbladpoglhleaaGreatDoorDn
namespace Go.Proofs.YtgbladpoglhleaaGreatDoor
open Go.RowKit Go.Shelf Go
structure Edit where
  No : Int
  At : Int
  Cut : Int
  X : UInt8
  Add : List UInt8
def kedit : Kind Edit where
  sz := 5
  R := fun w ok x cs => ∃ v, cs = [.int .i64 x.No, .int .i64 x.At, .int .i64 x.Cut, .int .u8 x.X.toNat, v] ∧ Sl kbyte w ok v x.Add
  len := by rintro w ok x cs ⟨v, rfl, _⟩; rfl
  one := by
    rintro w ok x cs ⟨v, rfl, A, c, rfl, _⟩ u hu
    simp only [List.mem_cons, List.not_mem_nil, or_false] at hu
    rcases hu with rfl | rfl | rfl | rfl | rfl <;> rfl
  mono := by rintro w ok ok' x cs hm ⟨v, rfl, h⟩; exact ⟨v, rfl, h.mono hm⟩
  bound := by rintro w ok x cs ⟨v, rfl, h⟩; exact ⟨v, rfl, h.bound⟩
  move := by rintro w w' ok x cs hm ⟨v, rfl, h⟩; exact ⟨v, rfl, h.move hm⟩
theorem Sl.edit {w : World} {ok : Nat → Prop} {A : Option Addr} {n c : Nat} {xs : List Edit} (h : Sl kedit w ok (.slice A n c) xs) (i : Nat) (hi : i < xs.length) : ∃ b o v, A = some ⟨b, o, none⟩ ∧
    (w.cell? ⟨b, o + i * 5, none⟩ = some (.int .i64 xs[i].No) ∧ w.cell? ⟨b, o + i * 5 + 1, none⟩ = some (.int .i64 xs[i].At) ∧ w.cell? ⟨b, o + i * 5 + 2, none⟩ = some (.int .i64 xs[i].Cut) ∧
    w.cell? ⟨b, o + i * 5 + 3, none⟩ = some (.int .u8 xs[i].X.toNat) ∧ w.cell? ⟨b, o + i * 5 + 4, none⟩ = some v) ∧ Sl kbyte w ok v xs[i].Add := by
  obtain ⟨b, o, cs, e, _, _, ⟨v, rfl, hv⟩, q⟩ := h.at i hi
  exact ⟨b, o, v, e, ⟨q 0 _ rfl, q 1 _ rfl, q 2 _ rfl, q 3 _ rfl, q 4 _ rfl⟩, hv⟩
theorem idx_any (i : Int) {n : Nat} (h : 0 < n) (hn : n ≤ 1099511627776) : ∃ j : Nat, j < n ∧ (wrap64 (i.tmod n + n)).tmod n = (j : Int) := by
  have h0 : (0 : Int) < (n : Int) := by omega
  have h1 := Int.tmod_lt_of_pos i h0
  have h2 : -(n : Int) < i.tmod n := Int.lt_tmod_of_pos i h0
  have e : wrap64 (i.tmod n + n) = i.tmod n + n := by unfold wrap64; omega
  rw [e, Int.tmod_eq_emod_of_nonneg (by omega)]
  have h3 := Int.emod_nonneg (i.tmod n + n) (show (n : Int) ≠ 0 by omega)
  have h4 := Int.emod_lt_of_pos (i.tmod n + n) h0
  exact ⟨((i.tmod n + n) % n).toNat, by omega, by omega⟩
/-- Some bytes, in a block that is none of ng. -/
def Rwv (w : World) (lo ng : Nat) (u : Value) : Prop :=
  ∃ A n c, u = .slice A n c ∧ n ≤ c ∧ c ≤ 9223372036854775807 ∧ (0 < n → ∃ (b o : Nat) (cur : Array Value), A = some ⟨b, o, none⟩ ∧ lo ≤ b ∧ b ≠ ng ∧ w.heap[b]? = some (.cells cur 5 (0, 0)) ∧ ∀ j, j < n → ∃ x : UInt8, cur[o + j]? = some (.int .u8 x.toNat))
section
variable {w w1 : World} {lo ng : Nat} {u : Value}
theorem Rwv.move (h : Rwv w lo ng u) (hm : ∀ b, lo ≤ b → b < w.heap.size → b ≠ ng → w1.heap[b]? = w.heap[b]?) : Rwv w1 lo ng u := by
  obtain ⟨A, n, c, e, h1, h2, h3⟩ := h
  refine ⟨A, n, c, e, h1, h2, fun hn => ?_⟩
  obtain ⟨b, o, cur, e2, h4, h5, h6, h7⟩ := h3 hn
  exact ⟨b, o, cur, e2, h4, h5, (hm b h4 (blk_lt h6) h5).trans h6, h7⟩
theorem Rwv.other {ng' : Nat} (h : Rwv w lo ng u) (hn : w.heap.size ≤ ng') : Rwv w lo ng' u := by
  obtain ⟨A, n, c, e, h1, h2, h3⟩ := h
  refine ⟨A, n, c, e, h1, h2, fun hn0 => ?_⟩
  obtain ⟨b, o, cur, e2, h4, h5, h6, h7⟩ := h3 hn0
  exact ⟨b, o, cur, e2, h4, by have := blk_lt h6; omega, h6, h7⟩
theorem Rwv.to {ng' lo' : Nat} (h : Rwv w lo ng u) (hm : ∀ b, lo ≤ b → b < w.heap.size → b ≠ ng → w1.heap[b]? = w.heap[b]?) (hn : ng' = ng ∨ w.heap.size ≤ ng') (hl : lo' ≤ lo) : Rwv w1 lo' ng' u := by
  obtain ⟨A, n, c, e, h1, h2, h3⟩ := h
  refine ⟨A, n, c, e, h1, h2, fun hn0 => ?_⟩
  obtain ⟨b, o, cur, e2, h4, h5, h6, h7⟩ := h3 hn0
  exact ⟨b, o, cur, e2, Nat.le_trans hl h4, fun e => by
    rcases hn with hn | hn
    · exact h5 (e.trans hn)
    · have := blk_lt h6
      omega, (hm b h4 (blk_lt h6) h5).trans h6, h7⟩
theorem Rwv.set (h : Rwv w lo ng u) (b0 o0 : Nat) (y : UInt8) : Rwv (w.setCell ⟨b0, o0, none⟩ (.int .u8 y.toNat)) lo ng u := by
  obtain ⟨A, n, c, e, h1, h2, h3⟩ := h
  refine ⟨A, n, c, e, h1, h2, fun hn => ?_⟩
  obtain ⟨b, o, cur, e2, h4, h5, h6, h7⟩ := h3 hn
  by_cases hb : b = b0
  · subst hb
    refine ⟨b, o, cur.setIfInBounds o0 (.int .u8 y.toNat), e2, h4, h5, ?_, fun j hj => ?_⟩
    · simp [World.setCell, Array.getElem?_modify, h6]
    · obtain ⟨x, hx⟩ := h7 j hj
      rw [Array.getElem?_setIfInBounds]
      split
      · split
        · exact ⟨y, rfl⟩
        · rename_i h8 h9
          have := (Array.getElem?_eq_some_iff.1 hx).1
          omega
      · exact ⟨x, hx⟩
  · exact ⟨b, o, cur, e2, h4, h5, (Below.heap_setCell _ _ _ _ hb).trans h6, h7⟩
theorem Rwv.cut {A : Option Addr} {n c m : Nat} (h : Rwv w lo ng (.slice A n c)) (hm : m ≤ n) : Rwv w lo ng (.slice A m c) := by
  obtain ⟨A, n, c, e, h1, h2, h3⟩ := h
  cases e
  refine ⟨A, m, c, rfl, by omega, h2, fun hn => ?_⟩
  obtain ⟨b, o, cur, e2, h4, h5, h6, h7⟩ := h3 (by omega)
  exact ⟨b, o, cur, e2, h4, h5, h6, fun j hj => h7 j (by omega)⟩
theorem Rwv.own {n : Nat} {bs : List UInt8} (h : w.ownsRow lo 5 1 u n (u8s bs)) (hn : u.ownBlock ≠ some ng) : Rwv w lo ng u := by
  have hl := h.1
  rw [u8s_length] at hl
  rcases h.2 with ⟨rfl, h0⟩ | ⟨g, cap, cur, rfl, h1, h2, h3, h4, h5, h6⟩
  · exact ⟨none, 0, 0, rfl, Nat.le_refl _, by decide, fun h => absurd h (Nat.lt_irrefl 0)⟩
  · refine ⟨_, n, cap, rfl, h3, by simp only [maxLen] at h4; omega, fun _ => ⟨g, 0, cur, rfl, h1, fun e => hn (by rw [e]; rfl), h2, fun j hj => ?_⟩⟩
    have h7 : (cur.toList.take (n * 1))[j]? = (u8s bs)[j]? := by rw [h6]
    rw [List.getElem?_take_of_lt (by omega)] at h7
    unfold u8s at h7
    rw [List.getElem?_map, List.getElem?_eq_getElem (l := bs) (by omega)] at h7
    exact ⟨bs[j]'(by omega), by simpa using h7⟩
theorem Rwv.sl (h : Rwv w lo ng u) : ∃ A n c bs, u = .slice A n c ∧ bs.length = n ∧ Sl kbyte w (fun k => lo ≤ k ∧ k ≠ ng) u bs := by
  obtain ⟨A, n, c, rfl, h1, h2, h3⟩ := h
  rcases Nat.eq_zero_or_pos n with rfl | hn
  · exact ⟨A, 0, c, [], rfl, rfl, A, c, rfl, by simp, h2, fun h => absurd h (Nat.lt_irrefl 0)⟩
  · obtain ⟨b, o, cur, rfl, h4, h5, h6, h7⟩ := h3 hn
    refine ⟨_, n, c, (List.range n).map fun j => match cur[o + j]? with | some (.int _ x) => UInt8.ofNat x.toNat | _ => 0, rfl, by simp, _, c, by simp, by simpa using h1, h2, fun _ => ⟨b, o, rfl, ⟨h4, h5⟩, blk_lt h6, fun i x hx => ?_⟩⟩
    obtain ⟨hi, hx⟩ := List.getElem?_eq_some_iff.1 hx
    rw [List.length_map, List.length_range] at hi
    rw [List.getElem_map, List.getElem_range] at hx
    obtain ⟨y, hy⟩ := h7 i hi
    rw [hy] at hx
    have hyx : y = x := by rw [← hx]; simp
    subst hyx
    refine ⟨_, rfl, fun j v hj => ?_⟩
    cases j with
    | zero =>
      cases hj
      have hlt := (Array.getElem?_eq_some_iff.1 hy)
      obtain ⟨hlt, hy⟩ := hlt
      simp [World.cell?, h6, kbyte, flat, hlt, hy]
    | succ j => simp at hj
end
def lenV : Value → Nat
  | .slice _ n _ => n
  | _ => 0
def sumV (vs : List Value) : Nat := (vs.map lenV).sum
/-- All payloads, under way. -/
structure AL (w : World) (lo gA cA : Nat) (vs : List Value) : Prop where
  own : w.ownsRow lo 44 1 (.slice (some ⟨gA, 0, none⟩) vs.length cA) vs.length vs
  row : ∀ u ∈ vs, Rwv w lo gA u
/-- append(v, x...) of rows that lie anywhere. -/
theorem app_vals {ops : Array Oper} {rest : List Oper} {o : Oper} {a : Act} {Q : Exit → Act → World → Prop} {w : World} (B : Nat) (hgd : o.guard = none) (s x : Operand)
    (ho : o.op = .call { callee := .builtin .append, args := #[s, x], argTypes := #[45, 45] })
    (v : Value) (n : Nat) (xs : List Value) (A : Option Addr) (c k : Nat) (ys : List Value) (hs : a.eval s = v) (hx : a.eval x = .slice A k c) (hk : ys.length = k) (hA : A = none → k = 0) (HO : w.ownsRow B 44 1 v n xs)
    (hc : ∀ ad, A = some ad → ∀ (j : Nat) (u : Value), ys[j]? = some u → w.cell? (ad.add j) = some u) (h1 : ∀ u ∈ ys, u.oneCell' = true) (hbase : B ≤ w.heap.size) (hl : (n + k) * 24 ≤ 140737488355328)
    (h : ∀ v1 w1, w1.ownsRow B 44 1 v1 (n + k) (xs ++ ys) → w.grownBy w1 v.ownBlock → (v1.ownBlock = v.ownBlock ∨ v1.ownBlock = some w.heap.size) → wpList Tryz.prog ops Q rest (a.put o.dst v1) w1) :
    wpList Tryz.prog ops Q (o :: rest) a w := by
  obtain ⟨i0, hi, hz0, hz1, hz2⟩ := info_parts Tryz.infoBytes
  cases A with
  | none =>
    have h0 := hA rfl
    subst h0
    have := List.eq_nil_of_length_eq_zero hk
    subst this
    refine wpList_plain hgd fun K hK => ?_
    have hrun := run_append_none' (P := Tryz.prog) (w := w) B 45 o.type 44 i0 1 c Tryz.underlying45 hi v n xs HO
    unfold Oper.wp
    simp [execOp, ho, resolve, invoke, builtin, hs, hx, hrun, Result.andThen]
    exact hK _ _ (h v w (by simpa using HO) ⟨rfl, rfl, rfl, Nat.le_refl _, fun _ _ _ => rfl⟩ (.inl rfl))
  | some ad =>
    exact wpList_append_own_at w hgd s x 45 ho B 44 i0 _ 1 24 Tryz.underlying45 hi hz0 hz1 hz2 rfl (by decide) v n xs hs HO ad k c ys hx (by omega) (hc ad rfl)
      h1 (by simp only [maxLen]; omega) hl hbase fun v1 w1 h1 h2 _ h4 => h v1 w1 h1 h2 h4
theorem AL.blk {w : World} {lo gA cA : Nat} {vs : List Value} (h : AL w lo gA cA vs) : ∃ cur : Array Value, w.heap[gA]? = some (.cells cur 44 (0, 0)) ∧ cur.size = cA ∧ vs.length ≤ cA ∧ cA ≤ 9223372036854775807 ∧ lo ≤ gA ∧ ∀ (k : Nat) (u : Value), vs[k]? = some u → w.cell? ⟨gA, k, none⟩ = some u := by
  rcases h.own.2 with ⟨e, _⟩ | ⟨g, cap, cur, e, h1, h2, h3, h4, h5, h6⟩
  · cases e
  · cases e
    refine ⟨cur, h2, by simpa using h5, h3, by simp only [maxLen] at h4; omega, h1, fun k u hk => ?_⟩
    have := h.own.cells (g := gA) rfl k u hk
    rw [addr_add] at this
    simpa using this
def EdPost (w : World) (T N : Nat) (e : Ending) (w' : World) : Prop := ∃ hv dv head data, e = .returned (.tuple #[hv, dv]) ∧ Sl kbyte w' (w.heap.size ≤ ·) hv head ∧ Sl (kslice kbyte) w' (w.heap.size ≤ ·) dv data ∧
  head.length + sumL data ≤ T + 40000 ∧ data.length ≤ N + 20 ∧ Below w.heap.size w w'
theorem BL.rwv {w : World} {lo ng i : Nat} {dv u : Value} {vs : List Value} {bss : List (List UInt8)} (h : BL w lo dv vs bss) (hu : vs[i]? = some u) (hn : u.ownBlock ≠ some ng) : Rwv w lo ng u ∧ ∃ bs, bss[i]? = some bs ∧ lenV u = bs.length := by
  have hl := h.len
  have hi := (List.getElem?_eq_some_iff.1 hu).1
  have hb : bss[i]? = some bss[i] := List.getElem?_eq_getElem (by omega)
  have ho := h.row i u _ hu hb
  obtain ⟨A, c, e⟩ := own_sl ho
  exact ⟨Rwv.own ho hn, _, hb, by rw [e]; rfl⟩
theorem sumV_append (a b : List Value) : sumV (a ++ b) = sumV a + sumV b := by simp [sumV]
theorem BL.sumV {w : World} {lo : Nat} {dv : Value} {vs : List Value} {bss : List (List UInt8)} (h : BL w lo dv vs bss) : sumV vs = sumL bss := by
  have hl := h.len
  have e : vs.map lenV = bss.map List.length := by
    refine List.ext_getElem (by simp [hl]) fun i h1 h2 => ?_
    rw [List.length_map] at h1
    obtain ⟨A, c, e⟩ := own_sl (h.row i vs[i] (bss[i]'(by omega)) (List.getElem?_eq_getElem h1) (List.getElem?_eq_getElem _))
    rw [List.getElem_map, List.getElem_map, e]
    rfl
  unfold Go.Proofs.YtgbladpoglhleaaGreatDoor.sumV sumL
  rw [e]
theorem idx_two (i : Int) {n : Nat} (h : 0 < n) : ∃ j : Nat, j < n ∧ (i.tmod n + n).tmod n = (j : Int) ∧ 0 ≤ i.tmod n + n ∧ i.tmod n + n ≤ 2 * n := by
  have h0 : (0 : Int) < (n : Int) := by omega
  have h1 := Int.tmod_lt_of_pos i h0
  have h2 : -(n : Int) < i.tmod n := Int.lt_tmod_of_pos i h0
  rw [Int.tmod_eq_emod_of_nonneg (by omega)]
  have h3 := Int.emod_nonneg (i.tmod n + n) (show (n : Int) ≠ 0 by omega)
  have h4 := Int.emod_lt_of_pos (i.tmod n + n) h0
  exact ⟨((i.tmod n + n) % n).toNat, by omega, by omega, by omega, by omega⟩
theorem xor8 (x y : UInt8) : bits .xor .u8 (x.toNat : Int) (y.toNat : Int) = ((x ^^^ y).toNat : Int) := by
  have h1 : ∀ z : UInt8, (BitVec.ofInt 8 (z.toNat : Int)).toNat = z.toNat := fun z => by
    rw [BitVec.ofInt_natCast, BitVec.toNat_ofNat]; exact Nat.mod_eq_of_lt z.toNat_lt
  show IntKind.u8.wrap ((BitVec.ofInt 8 (x.toNat : Int) ^^^ BitVec.ofInt 8 (y.toNat : Int)).toNat : Int) = _
  rw [BitVec.toNat_xor, h1, h1, UInt8.toNat_xor]
  have := (x ^^^ y).toNat_lt
  rw [UInt8.toNat_xor] at this
  exact Go.IntWalk.u8_in _ (by omega)
theorem AL.byte {w : World} {lo gA cA b o : Nat} {vs : List Value} (h : AL w lo gA cA vs) (hb : b ≠ gA) (y : UInt8) : AL (w.setCell ⟨b, o, none⟩ (.int .u8 y.toNat)) lo gA cA vs :=
  ⟨ownsRow_move h.own fun q e => Below.heap_setCell _ _ _ _ (by cases e; exact fun e2 => hb e2.symm), fun u hu => (h.row u hu).set b o y⟩
theorem AL.set {w : World} {lo gA cA k : Nat} {vs : List Value} {u : Value} (h : AL w lo gA cA vs) (_ : k < vs.length) (hu : Rwv w lo gA u) : AL (w.setCell ⟨gA, k, none⟩ u) lo gA cA (vs.set k u) := by
  have hfar : ∀ b, b ≠ gA → (w.setCell ⟨gA, k, none⟩ u).heap[b]? = w.heap[b]? := fun b hb => Below.heap_setCell _ _ _ _ hb
  refine ⟨⟨by rw [List.length_set]; exact h.own.1, ?_⟩, fun x hx => ?_⟩
  · rcases h.own.2 with ⟨e, _⟩ | ⟨g', cap', cur', e, h1, h2, h3, h4, h5, h7⟩
    · cases e
    · cases e
      refine .inr ⟨gA, cA, cur'.setIfInBounds k u, by rw [List.length_set], h1, ?_, by rw [List.length_set]; exact h3, h4, by simpa using h5, ?_⟩
      · simp [World.setCell, Array.getElem?_modify, h2]
      · rw [Array.toList_setIfInBounds, List.take_set, List.length_set, h7]
  · rcases List.mem_or_eq_of_mem_set hx with hx | rfl
    · exact (h.row x hx).move fun b _ _ hb => hfar b hb
    · exact hu.move fun b _ _ hb => hfar b hb
theorem AL.below {w w1 : World} {lo gA cA : Nat} {vs : List Value} (h : AL w lo gA cA vs) (hb : Below w.heap.size w w1) : AL w1 lo gA cA vs :=
  ⟨ownsRow_move h.own fun q e => hb.block q (h.own.lt q e).2, fun u hu => (h.row u hu).move fun b _ hlt _ => hb.block b hlt⟩
theorem mem_sumV {u : Value} : ∀ {vs : List Value}, u ∈ vs → lenV u ≤ sumV vs
  | [], h => by simp at h
  | x :: l, h => by
    have ih := @mem_sumV u l
    simp only [sumV, List.map_cons, List.sum_cons] at ih ⊢
    rcases List.mem_cons.1 h with rfl | h
    · omega
    · have := ih h
      omega
theorem sumV_set {u : Value} : ∀ {vs : List Value} {k : Nat} (hk : k < vs.length), lenV u ≤ lenV vs[k] → sumV (vs.set k u) ≤ sumV vs
  | [], k, h, _ => by simp at h
  | x :: l, 0, h, hl => by
    simp only [sumV, List.set_cons_zero, List.map_cons, List.sum_cons, List.getElem_cons_zero] at hl ⊢
    omega
  | x :: l, k + 1, h, hl => by
    have := sumV_set (vs := l) (k := k) (by simpa using h) (by simpa using hl)
    simp only [sumV, List.set_cons_succ, List.map_cons, List.sum_cons] at this ⊢
    omega
theorem exists_list {α β : Type} (P : α → β → Prop) : ∀ (xs : List α), (∀ x ∈ xs, ∃ y, P x y) → ∃ ys : List β, ys.length = xs.length ∧ ∀ (i : Nat) (h1 : i < xs.length) (h2 : i < ys.length), P xs[i] ys[i]
  | [], _ => ⟨[], rfl, fun i h => by simp at h⟩
  | x :: xs, h => by
    obtain ⟨y, hy⟩ := h x List.mem_cons_self
    obtain ⟨ys, hl, hp⟩ := exists_list P xs fun z hz => h z (List.mem_cons_of_mem _ hz)
    refine ⟨y :: ys, by simp [hl], fun i h1 h2 => ?_⟩
    cases i with
    | zero => exact hy
    | succ i => exact hp i (by simpa using h1) (by simpa using h2)
theorem AL.out {w : World} {lo gA cA : Nat} {vs : List Value} (h : AL w lo gA cA vs) (hp : 0 < vs.length) : ∃ (hd : List UInt8) (tl : List (List UInt8)), Sl kbyte w (lo ≤ ·) (vs[0]) hd ∧ Sl (kslice kbyte) w (lo ≤ ·) (.slice (some ⟨gA, 1, none⟩) (vs.length - 1) (cA - 1)) tl ∧ hd.length + sumL tl = sumV vs ∧ tl.length = vs.length - 1 := by
  obtain ⟨bss, hl, hb⟩ := exists_list (fun (u : Value) (bs : List UInt8) => lenV u = bs.length ∧ Sl kbyte w (lo ≤ ·) u bs) vs fun u hu => by
    obtain ⟨A, n, c, bs, rfl, hn, hs⟩ := (h.row u hu).sl
    exact ⟨bs, hn.symm, hs.mono fun k hk => hk.1⟩
  obtain ⟨cur, hc, hsz, h1, h2, h3, h4⟩ := h.blk
  have hs : Sl (kslice kbyte) w (lo ≤ ·) (.slice (some ⟨gA, 0, none⟩) vs.length cA) bss := by
    refine ⟨_, cA, by rw [hl], by omega, h2, fun _ => ⟨gA, 0, rfl, h3, blk_lt hc, fun i x hx => ?_⟩⟩
    obtain ⟨hi, rfl⟩ := List.getElem?_eq_some_iff.1 hx
    refine ⟨[vs[i]'(by omega)], ⟨_, rfl, (hb i (by omega) hi).2⟩, fun j u hj => ?_⟩
    cases j with
    | zero =>
      cases hj
      have := h4 i _ (List.getElem?_eq_getElem (by omega))
      simpa [kslice] using this
    | succ j => simp at hj
  have hsum : sumL bss = sumV vs := by
    have e : bss.map List.length = vs.map lenV := by
      refine List.ext_getElem (by simp [hl]) fun i h1 h2 => ?_
      rw [List.length_map] at h1 h2
      rw [List.getElem_map, List.getElem_map, (hb i h2 h1).1]
    unfold sumL sumV
    rw [e]
  have hd := Sl.drop (i := 1) hs (by omega)
  have hb0 : 0 < bss.length := by omega
  refine ⟨bss[0], bss.drop 1, (hb 0 hp hb0).2, by simpa [kslice, hl] using hd, ?_, by rw [List.length_drop, hl]⟩
  rw [← hsum]
  have e : bss = bss[0] :: bss.drop 1 := by
    have := List.drop_eq_getElem_cons hb0
    simpa using this
  conv => rhs; rw [e]
  simp [sumL]
set_option maxHeartbeats 8000000 in
set_option maxRecDepth 100000 in
theorem edited_any {w : World} {ok : Nat → Prop} {hv dv lv : Value} {head : List UInt8} {data : List (List UInt8)} {l : List Edit} (hh : Sl kbyte w ok hv head) (hd : Sl (kslice kbyte) w ok dv data) (he : Sl kedit w ok lv l) (hT : head.length + sumL data ≤ 16000000) (hN : data.length ≤ 100000) :
    Calls Tryz.prog 30 #[hv, dv, lv] w (EdPost w (head.length + sumL data) data.length) := by
  obtain ⟨Ah, ch, rfl, hch, hmh⟩ := hh.slice
  obtain ⟨Ad, cd, rfl, hcd, hmd⟩ := hd.slice
  obtain ⟨Al, cl, rfl, hcl, hml⟩ := he.slice
  have HH : Aside (∀ W, Below w.heap.size w W → Sl kbyte W (fun k => ok k ∧ k < w.heap.size) (.slice Ah head.length ch) head) := ⟨fun W hW => hh.bound.move fun k hk => hW.block k hk.2⟩
  have HD : Aside (∀ W, Below w.heap.size w W → Sl (kslice kbyte) W (fun k => ok k ∧ k < w.heap.size) (.slice Ad data.length cd) data) := ⟨fun W hW => hd.bound.move fun k hk => hW.block k hk.2⟩
  have HE : Aside (∀ W, Below w.heap.size w W → Sl kedit W (fun k => ok k ∧ k < w.heap.size) (.slice Al l.length cl) l) := ⟨fun W hW => he.bound.move fun k hk => hW.block k hk.2⟩
  have HT := Aside.mk (And.intro hT hN)
  have hcall := Bytes_any (HH.out w (Below.refl _ _)) (by omega)
  clear hh hd he hT
  go_enter Tryz.func30, Tryz.ntmps30
  go_wp2_with fail
  refine hcall.mono ?_
  clear hcall
  rintro e w1 ⟨v1, rfl, ho, B1⟩
  have HO := Aside.mk ho
  have HB := Aside.mk B1
  obtain ⟨A1, c1, rfl⟩ := own_sl ho
  have HRw : Aside (∀ g, w1.heap.size ≤ g → Rwv w1 w.heap.size g (.slice A1 head.length c1)) := ⟨fun g hg => Rwv.own HO.out fun e => by have := (HO.out.lt g e).2; omega⟩
  clear ho B1
  have HB2 := Aside.mk (HB.out.alloc HB.out.size (.cells #[.slice A1 head.length c1] 44))
  have HNw := Aside.mk (heap_alloc_new w1 (.cells #[.slice A1 head.length c1] 44))
  have HRw2 : Aside (Rwv (w1.alloc (.cells #[.slice A1 head.length c1] 44)) w.heap.size w1.heap.size (.slice A1 head.length c1)) := ⟨(HRw.out _ (Nat.le_refl _)).move fun b _ hb _ => Below.heap_alloc _ _ _ hb⟩
  have hcall := ByteLists_any (HD.out _ HB2.out) (by omega) (fun b hb => by have := mem_sumL hb; have := HT.out.1; omega)
  go_wp2_with fail
  refine hcall.mono ?_
  clear hcall
  rintro e w3 ⟨v3, vs3, rfl, hbl, B3⟩
  have HBL := Aside.mk hbl
  have HB3 := Aside.mk (bthen HB2.out HB2.out.size B3)
  have hszl : (w1.alloc (.cells #[.slice A1 head.length c1] 44)).heap.size = w1.heap.size + 1 := by simp
  have HN3 := Aside.mk (bblk B3 HNw.out)
  have HR3 : Aside (Rwv w3 w.heap.size w1.heap.size (.slice A1 head.length c1)) := ⟨HRw2.out.move fun b _ hb _ => B3.block b hb⟩
  have HSz : Aside (w.heap.size ≤ w1.heap.size ∧ w1.heap.size < w3.heap.size) := ⟨by have := HB.out.size; have := B3.size; omega⟩
  have HOw : Aside (w3.ownsRow w.heap.size 44 1 (.slice (some ⟨w1.heap.size, 0, none⟩) 1 1) 1 [.slice A1 head.length c1]) := ⟨⟨rfl, .inr ⟨w1.heap.size, 1, _, rfl, HSz.out.1, HN3.out, by decide, by simp [maxLen], rfl, rfl⟩⟩⟩
  obtain ⟨A3, c3, rfl⟩ := own_sl hbl.own
  have HA3 : Aside (A3 = none → data.length = 0) := ⟨fun e => by
    subst e
    rcases HBL.out.own.2 with ⟨_, h⟩ | ⟨g, cap, cur, e, _⟩
    · exact h
    · cases e⟩
  have HC3 : Aside (∀ ad, A3 = some ad → ∀ (j : Nat) (u : Value), vs3[j]? = some u → w3.cell? (ad.add j) = some u) := ⟨fun ad e j u hu => by
    subst e
    rcases HBL.out.own.2 with ⟨e, _⟩ | ⟨g, cap, cur, e, _⟩
    · cases e
    · cases e
      exact HBL.out.own.cells rfl j u hu⟩
  have HOn : Aside (∀ u ∈ vs3, u.oneCell' = true) := ⟨fun u hu => by
    obtain ⟨i, hi, rfl⟩ := List.mem_iff_getElem.1 hu
    have hb : data[i]? = some (data[i]'(by have := HBL.out.len; omega)) := List.getElem?_eq_getElem _
    obtain ⟨A, c, e⟩ := own_sl (HBL.out.row i _ _ (List.getElem?_eq_getElem hi) hb)
    rw [e]; rfl⟩
  clear hbl B3 HB2 HNw HRw2 HO HB HRw hszl
  have hl3 : vs3.length = data.length := HBL.out.len
  go_wp2_with (at_builtin; go_must (refine app_vals w.heap.size rfl _ _ rfl _ 1 [.slice A1 head.length c1] A3 c3 data.length vs3 (by first | rfl | (simp [Act.eval])) rfl hl3 HA3.out HOw.out HC3.out HOn.out HB3.out.size (by omega) ?_; intro v4 w4 hown hg hat; have HOw4 := Aside.mk hown; have HGr := Aside.mk hg; have HAt := Aside.mk hat; clear hown hg hat))
  obtain ⟨gA, cA, rfl, hcA, hcAm⟩ := own_pos HOw4.out (by omega)
  have HB4 := Aside.mk (HB3.out.grown HGr.out HB3.out.size fun q e => by have := HSz.out; cases e; exact this.1)
  have HAL : Aside (AL w4 w.heap.size gA cA ([Value.slice A1 head.length c1] ++ vs3)) := ⟨by
    have hng : gA = w1.heap.size ∨ w3.heap.size ≤ gA := by
      rcases HAt.out with e | e
      · exact .inl (Option.some.inj e)
      · exact .inr (Nat.le_of_eq (Option.some.inj e).symm)
    have hmv : ∀ b, b < w3.heap.size → b ≠ w1.heap.size → w4.heap[b]? = w3.heap[b]? := fun b hb hn => HGr.out.block b hb fun e => hn (Option.some.inj e)
    refine ⟨by rw [List.length_append, hl3]; exact HOw4.out, fun u hu => ?_⟩
    rcases List.mem_append.1 hu with hu | hu
    · rw [List.mem_singleton.1 hu]
      exact HR3.out.to (fun b _ hb hn => hmv b hb hn) hng (Nat.le_refl _)
    · obtain ⟨j, hj, rfl⟩ := List.mem_iff_getElem.1 hu
      have hv : vs3[j]? = some vs3[j] := List.getElem?_eq_getElem hj
      have hlo : w1.heap.size + 1 ≤ (w1.alloc (.cells #[.slice A1 head.length c1] 44)).heap.size := by simp
      obtain ⟨hr, -⟩ := HBL.out.rwv (ng := w1.heap.size) hv (fun e => by
        have hb : data[j]? = some (data[j]'(by omega)) := List.getElem?_eq_getElem _
        have := ((HBL.out.row j _ _ hv hb).lt _ e).1
        omega)
      exact hr.to (fun b _ hb hn => hmv b hb hn) hng (by have := HSz.out; omega)⟩
  have HSm : Aside (0 < ([Value.slice A1 head.length c1] ++ vs3).length ∧ ([Value.slice A1 head.length c1] ++ vs3).length ≤ data.length + 1 + 0 ∧ sumV ([Value.slice A1 head.length c1] ++ vs3) ≤ head.length + sumL data + 2000 * 0 ∧ 0 ≤ 20) := ⟨by
    rw [sumV_append, HBL.out.sumV, List.length_append, hl3]
    simp [sumV, lenV]
    omega⟩
  have hv8 : (Value.slice (some ⟨gA, 0, none⟩) (1 + data.length) cA) = .slice (some ⟨gA, 0, none⟩) ([Value.slice A1 head.length c1] ++ vs3).length cA := by rw [List.length_append, hl3]; rfl
  rw [hv8]
  clear HOw4 HGr HAt HR3 HBL HN3 HSz HOw HA3 HC3 HOn hl3 HB3 hcA hcAm hv8 HH HD
  generalize hvs : [Value.slice A1 head.length c1] ++ vs3 = vs at *
  clear hvs
  go_loopg [8, 9] l.length (fun kq v8 v9 wr => ∃ (i : Nat) (vs : List Value) (gA cA : Nat), Aside (i + kq = l.length) ∧ v9 = .int .i64 i ∧ v8 = .slice (some ⟨gA, 0, none⟩) vs.length cA ∧ Aside (Below w.heap.size w wr) ∧ Aside (AL wr w.heap.size gA cA vs) ∧ Aside (0 < vs.length ∧ vs.length ≤ data.length + 1 + i ∧ sumV vs ≤ head.length + sumL data + 2000 * i ∧ i ≤ 20))
  case atStart => exact ⟨0, vs, gA, cA, ⟨by omega⟩, rfl, rfl, HB4, HAL, HSm⟩
  case round =>
    clear HB4 HAL HSm
    obtain ⟨i, vs, gA, cA, HI, rfl, rfl, HB, HAL, HSm⟩ := hrel
    obtain ⟨wo, rfl⟩ : ∃ wo, wo = wr := ⟨_, rfl⟩
    by_cases hi : i < l.length ∧ i < 20
    · obtain ⟨hi, hi20⟩ := hi
      obtain ⟨be, oe, e, hbe⟩ : ∃ be oe, Al = some ⟨be, oe, none⟩ ∧ be < w.heap.size := by
        obtain ⟨A', c', e, _, _, h3⟩ := HE.out wo HB.out
        cases e
        obtain ⟨b, o, e, h4, _⟩ := h3 (by omega)
        exact ⟨b, o, e, h4.2⟩
      subst e
      have HBe := Aside.mk hbe
      clear hbe
      obtain ⟨be', oe', va, e, hcl, sAdd⟩ := (HE.out wo HB.out).edit i hi
      cases e
      obtain ⟨e0, e1, e2, e3, e4⟩ := hcl
      have hM : Aside (l.length - (i + 1) < gk ∧ i + 1 + (l.length - (i + 1)) = l.length) := ⟨by have := HI.out; omega⟩
      obtain ⟨hp, hn1, hn2, -⟩ := HSm.out
      obtain ⟨kno, hkno, hk⟩ := idx_any l[i].No hp (by have := HT.out.2; omega)
      obtain ⟨cur, hgA, hcs, hcA1, hcA2, hgl, hcell⟩ := HAL.out.blk
      have hu := hcell kno vs[kno] (List.getElem?_eq_getElem hkno)
      have hr := HAL.out.row vs[kno] (List.getElem_mem hkno)
      have HVu : Aside (vs[kno]? = some vs[kno]) := ⟨List.getElem?_eq_getElem hkno⟩
      have hmu := mem_sumV (List.getElem_mem hkno)
      generalize hug : vs[kno] = u at *
      have HUg := Aside.mk hug
      clear hug
      obtain ⟨A, n, c, rfl, hnc, hcm, hrr⟩ := hr
      have hnS : n ≤ sumV vs := hmu
      clear hmu
      generalize l[i] = ed at *
      obtain ⟨eNo, eAt, eCut, eX, eAdd⟩ := ed
      simp only at e0 e1 e2 e3 e4 sAdd hk
      obtain ⟨Aa, ca, rfl, _⟩ := sAdd.slice
      have i0 : (0 : Int) ≤ (i : Int) := Int.natCast_nonneg _
      have i1 : (i : Int) < (l.length : Int) := by omega
      have i2 : (i : Int) < 20 := by omega
      have n0 : ((vs.length : Int) == 0) = false := beq_false_of_ne (by omega)
      have n1 : ¬ ((vs.length : Int) = 0) := by omega
      have no0 : (0 : Int) ≤ (kno : Int) := Int.natCast_nonneg _
      have no1 : (kno : Int) < (vs.length : Int) := by omega
      have HAdd := Aside.mk sAdd
      have HCel := Aside.mk hcell
      have HGA := Aside.mk hgA
      have HRr := Aside.mk hrr
      clear hcell hgA hrr sAdd
      have HAL2 := HAL
      clear HAL
      go_upto_if 51 with (fail)
      obtain ⟨lb, hlb⟩ : ∃ lb, decide (0 < n) = lb := ⟨_, rfl⟩
      have HLb : Aside (lb = true → 0 < n) := ⟨fun h => by rw [← hlb] at h; simpa using h⟩
      simp only [hlb]
      clear hlb
      go_cut [8] (fun v8 wx => ∃ vs' : List Value, v8 = .slice (some ⟨gA, 0, none⟩) vs.length cA ∧ Aside (vs'.length = vs.length) ∧ Aside (Below w.heap.size w wx) ∧ Aside (AL wx w.heap.size gA cA vs') ∧ Aside (sumV vs' ≤ sumV vs))
      case first =>
        cases lb with
        | false =>
          go_wp2_with fail
          go_meet
          case rel => exact ⟨vs, rfl, ⟨rfl⟩, HB, HAL2, ⟨Nat.le_refl _⟩⟩
        | true =>
          have hn := HLb.out rfl
          obtain ⟨b, o, cur9, rfl, hlob, hbg, hcur, hby⟩ := HRr.out hn
          obtain ⟨ka, hka, hk2, hk3, hk4⟩ := idx_two eAt hn
          have hnB : n ≤ 1099511627776 := by have := HT.out; have := HSm.out; omega
          obtain ⟨x, hx⟩ := hby ka hka
          have kb : wo.drew.cell? ⟨b, o + ka, none⟩ = some (.int .u8 (x.toNat : Int)) := by
            obtain ⟨hlt, hx⟩ := Array.getElem?_eq_some_iff.1 hx
            show wo.cell? _ = _
            simp [World.cell?, hcur, hlt, hx]
          have kf := (store_at (w := wo.drew) hcur (o + ka) (Array.getElem?_eq_some_iff.1 hx).1).2.1
          have hS0 : wo.drew.cell? ⟨be, oe + i * 5 + 1, none⟩ = some (.int .i64 eAt) ∧ wo.drew.cell? ⟨be, oe + i * 5 + 3, none⟩ = some (.int .u8 (eX.toNat : Int)) ∧ wo.drew.cell? ⟨b, o + ka, none⟩ = some (.int .u8 (x.toNat : Int)) := ⟨e1, e3, kb⟩
          obtain ⟨y, hy⟩ : ∃ y, y = x ^^^ eX := ⟨_, rfl⟩
          have hxor := xor8 x eX
          rw [← hy] at hxor
          clear hy
          have hn0 : ((n : Int) == 0) = false := beq_false_of_ne (by omega)
          have hn1 : ¬ ((n : Int) = 0) := by omega
          have hn2 : ¬ (n = 0) := by omega
          have hn3 : (n : Int) ≠ 0 := by omega
          have ka0 : (0 : Int) ≤ (ka : Int) := Int.natCast_nonneg _
          have ka1 : (ka : Int) < (n : Int) := by omega
          have hbnd : Aside (∀ z : Int, ∃ q : Nat, min (n : Int) (max 0 z) = (q : Int) ∧ q ≤ n) := ⟨fun z => ⟨(min (n : Int) (max 0 z)).toNat, by omega, by omega⟩⟩
          obtain ⟨z, hz⟩ : ∃ z, z = bits .and .i64 eCut 15 := ⟨_, rfl⟩
          obtain ⟨q, hq, hqn⟩ := hbnd.out z
          have hz' : bits .and .i64 eCut 15 = z := hz.symm
          have HALb : Aside (AL ((wo.setCell ⟨b, o + ka, none⟩ (.int .u8 (y.toNat : Int))).drew) w.heap.size gA cA vs) := ⟨(HAL2.out.byte (o := o + ka) hbg y).below (bdrew1 (Below.refl _ _))⟩
          have HBb : Aside (Below w.heap.size w ((wo.setCell ⟨b, o + ka, none⟩ (.int .u8 (y.toNat : Int))).drew)) := ⟨bdrew1 (HB.out.setCell (p := ⟨b, o + ka, none⟩) hlob (.int .u8 (y.toNat : Int)))⟩
          have HRu : Aside (Rwv ((wo.setCell ⟨b, o + ka, none⟩ (.int .u8 (y.toNat : Int))).drew) w.heap.size gA (.slice (some ⟨b, o, none⟩) (n - q) c)) := ⟨(HALb.out.row _ (List.mem_of_getElem? HVu.out)).cut (Nat.sub_le _ _)⟩
          obtain ⟨curb, hgb, hcsb, _, _, _, hcellb⟩ := HALb.out.blk
          obtain ⟨_, fb, _⟩ := store_at hgb kno (by omega)
          have kgb := hcellb kno _ HVu.out
          have e2b : ((wo.setCell ⟨b, o + ka, none⟩ (.int .u8 (y.toNat : Int))).drew).cell? ⟨be, oe + i * 5 + 2, none⟩ = some (.int .i64 eCut) := set_far (by show b ≠ be; have := HBe.out; omega) e2
          have hq0 : (0 : Int) ≤ (n : Int) - (q : Int) := by omega
          have hq1 : (n : Int) - (q : Int) ≤ (c : Int) := by omega
          have hq2 : ((n : Int) - (q : Int)).toNat = n - q := by omega
          have hq3 : (n : Int) - (q : Int) ≤ 9223372036854775807 := by omega
          clear hz hbnd hcellb hgb hcur hby hx
          go_wp2_with fail
          go_upto_region 9 with (fail)
          refine wp_region_X 21 (fun w' => w'.cell? ⟨be, oe + i * 5 + 1, none⟩ = some (.int .i64 eAt) ∧ w'.cell? ⟨be, oe + i * 5 + 3, none⟩ = some (.int .u8 (eX.toNat : Int)) ∧ w'.cell? ⟨b, o + ka, none⟩ = some (.int .u8 (x.toNat : Int))) (by kernel_rfl) ?_
          refine wpAnyX_take (i := 0) (oi := ⟨some 52, .move (.tmp 11), _, _, _, _⟩) (v := .slice (some ⟨b, o, none⟩) n c) rfl (by kernel_rfl) (by kernel_rfl) (by kernel_rfl) (by kernel_rfl) (fun _ _ _ h => h) (Or.inl ⟨by rfl, ?_⟩) hS0 ?_
          · intro w' hSw
            first | (go_simp; done) | (go_simp; rfl) | (go_simp; exact Go.IntWalk.i64_in _ (by omega)) | (go_simp; simp only [*])
          simp only [Act.put, List.setIfInBounds_toArray, List.set_cons_zero, List.set_cons_succ]
          refine wpAnyX_take (i := 1) (oi := ⟨some 53, .move (.tmp 2), _, _, _, _⟩) (v := .slice (some ⟨be, oe, none⟩) l.length cl) rfl (by kernel_rfl) (by kernel_rfl) (by kernel_rfl) (by kernel_rfl) (fun _ _ _ h => h) (Or.inl ⟨by rfl, ?_⟩) hS0 ?_
          · intro w' hSw
            first | (go_simp; done) | (go_simp; rfl) | (go_simp; exact Go.IntWalk.i64_in _ (by omega)) | (go_simp; simp only [*])
          simp only [Act.put, List.setIfInBounds_toArray, List.set_cons_zero, List.set_cons_succ]
          refine wpAnyX_take (i := 2) (oi := ⟨some 54, .move (.tmp 9), _, _, _, _⟩) (v := .int .i64 (i : Int)) rfl (by kernel_rfl) (by kernel_rfl) (by kernel_rfl) (by kernel_rfl) (fun _ _ _ h => h) (Or.inl ⟨by rfl, ?_⟩) hS0 ?_
          · intro w' hSw
            first | (go_simp; done) | (go_simp; rfl) | (go_simp; exact Go.IntWalk.i64_in _ (by omega)) | (go_simp; simp only [*])
          simp only [Act.put, List.setIfInBounds_toArray, List.set_cons_zero, List.set_cons_succ]
          refine wpAnyX_take (i := 3) (oi := ⟨some 55, .indexAddr 56 (.tmp 53) (.tmp 54), _, _, _, _⟩) (v := .pointer (some ⟨be, (oe+i*5), none⟩)) rfl (by kernel_rfl) (by kernel_rfl) (by kernel_rfl) (by kernel_rfl) (fun _ _ _ h => h) (Or.inl ⟨by rfl, ?_⟩) hS0 ?_
          · intro w' hSw
            first | (go_simp; done) | (go_simp; rfl) | (go_simp; exact Go.IntWalk.i64_in _ (by omega)) | (go_simp; simp only [*])
          simp only [Act.put, List.setIfInBounds_toArray, List.set_cons_zero, List.set_cons_succ]
          refine wpAnyX_take (i := 4) (oi := ⟨some 56, .fieldAddr 92 (.tmp 55) 1, _, _, _, _⟩) (v := .pointer (some ⟨be, oe + i * 5 + 1, none⟩)) rfl (by kernel_rfl) (by kernel_rfl) (by kernel_rfl) (by kernel_rfl) (fun _ _ _ h => h) (Or.inl ⟨by rfl, ?_⟩) hS0 ?_
          · intro w' hSw
            first | (go_simp; done) | (go_simp; rfl) | (go_simp; exact Go.IntWalk.i64_in _ (by omega)) | (go_simp; simp only [*])
          simp only [Act.put, List.setIfInBounds_toArray, List.set_cons_zero, List.set_cons_succ]
          refine wpAnyX_take (i := 5) (oi := ⟨some 57, .load 3 (.tmp 56), _, _, _, _⟩) (v := .int .i64 eAt) rfl (by kernel_rfl) (by kernel_rfl) (by kernel_rfl) (by kernel_rfl) (fun _ _ _ h => h) (Or.inl ⟨by rfl, ?_⟩) hS0 ?_
          · intro w' hSw
            first | (go_simp; done) | (go_simp; rfl) | (go_simp; exact Go.IntWalk.i64_in _ (by omega)) | (go_simp; simp only [*])
          simp only [Act.put, List.setIfInBounds_toArray, List.set_cons_zero, List.set_cons_succ]
          refine wpAnyX_take (i := 6) (oi := ⟨some 58, .move (.tmp 12), _, _, _, _⟩) (v := .int .i64 (n : Int)) rfl (by kernel_rfl) (by kernel_rfl) (by kernel_rfl) (by kernel_rfl) (fun _ _ _ h => h) (Or.inl ⟨by rfl, ?_⟩) hS0 ?_
          · intro w' hSw
            first | (go_simp; done) | (go_simp; rfl) | (go_simp; exact Go.IntWalk.i64_in _ (by omega)) | (go_simp; simp only [*])
          simp only [Act.put, List.setIfInBounds_toArray, List.set_cons_zero, List.set_cons_succ]
          refine wpAnyX_take (i := 7) (oi := ⟨some 59, .binOp BinOp.rem 3 (.tmp 57) (.tmp 58) 3, _, _, _, _⟩) (v := .int .i64 (eAt.tmod (n : Int))) rfl (by kernel_rfl) (by kernel_rfl) (by kernel_rfl) (by kernel_rfl) (fun _ _ _ h => h) (Or.inl ⟨by rfl, ?_⟩) hS0 ?_
          · intro w' hSw
            first | (go_simp; done) | (go_simp; rfl) | (go_simp; exact Go.IntWalk.i64_in _ (by omega)) | (go_simp; simp only [*])
          simp only [Act.put, List.setIfInBounds_toArray, List.set_cons_zero, List.set_cons_succ]
          refine wpAnyX_take (i := 8) (oi := ⟨some 60, .move (.tmp 12), _, _, _, _⟩) (v := .int .i64 (n : Int)) rfl (by kernel_rfl) (by kernel_rfl) (by kernel_rfl) (by kernel_rfl) (fun _ _ _ h => h) (Or.inl ⟨by rfl, ?_⟩) hS0 ?_
          · intro w' hSw
            first | (go_simp; done) | (go_simp; rfl) | (go_simp; exact Go.IntWalk.i64_in _ (by omega)) | (go_simp; simp only [*])
          simp only [Act.put, List.setIfInBounds_toArray, List.set_cons_zero, List.set_cons_succ]
          refine wpAnyX_take (i := 9) (oi := ⟨some 61, .binOp BinOp.add 3 (.tmp 59) (.tmp 60) 3, _, _, _, _⟩) (v := .int .i64 (eAt.tmod (n : Int) + (n : Int))) rfl (by kernel_rfl) (by kernel_rfl) (by kernel_rfl) (by kernel_rfl) (fun _ _ _ h => h) (Or.inl ⟨by rfl, ?_⟩) hS0 ?_
          · intro w' hSw
            first | (go_simp; done) | (go_simp; rfl) | (go_simp; exact Go.IntWalk.i64_in _ (by omega)) | (go_simp; simp only [*])
          simp only [Act.put, List.setIfInBounds_toArray, List.set_cons_zero, List.set_cons_succ]
          refine wpAnyX_take (i := 10) (oi := ⟨some 62, .move (.tmp 12), _, _, _, _⟩) (v := .int .i64 (n : Int)) rfl (by kernel_rfl) (by kernel_rfl) (by kernel_rfl) (by kernel_rfl) (fun _ _ _ h => h) (Or.inl ⟨by rfl, ?_⟩) hS0 ?_
          · intro w' hSw
            first | (go_simp; done) | (go_simp; rfl) | (go_simp; exact Go.IntWalk.i64_in _ (by omega)) | (go_simp; simp only [*])
          simp only [Act.put, List.setIfInBounds_toArray, List.set_cons_zero, List.set_cons_succ]
          refine wpAnyX_take (i := 11) (oi := ⟨some 63, .binOp BinOp.rem 3 (.tmp 61) (.tmp 62) 3, _, _, _, _⟩) (v := .int .i64 (ka : Int)) rfl (by kernel_rfl) (by kernel_rfl) (by kernel_rfl) (by kernel_rfl) (fun _ _ _ h => h) (Or.inl ⟨by rfl, ?_⟩) hS0 ?_
          · intro w' hSw
            first | (go_simp; done) | (go_simp; rfl) | (go_simp; exact Go.IntWalk.i64_in _ (by omega)) | (go_simp; simp only [*])
          simp only [Act.put, List.setIfInBounds_toArray, List.set_cons_zero, List.set_cons_succ]
          refine wpAnyX_take (i := 12) (oi := ⟨some 64, .indexAddr 44 (.tmp 52) (.tmp 63), _, _, _, _⟩) (v := .pointer (some ⟨b, o + ka, none⟩)) rfl (by kernel_rfl) (by kernel_rfl) (by kernel_rfl) (by kernel_rfl) (fun _ _ _ h => h) (Or.inl ⟨by rfl, ?_⟩) hS0 ?_
          · intro w' hSw
            first | (go_simp; done) | (go_simp; rfl) | (go_simp; exact Go.IntWalk.i64_in _ (by omega)) | (go_simp; simp only [*])
          simp only [Act.put, List.setIfInBounds_toArray, List.set_cons_zero, List.set_cons_succ]
          refine wpAnyX_take (i := 13) (oi := ⟨some 65, .load 5 (.tmp 64), _, _, _, _⟩) (v := .int .u8 (x.toNat : Int)) rfl (by kernel_rfl) (by kernel_rfl) (by kernel_rfl) (by kernel_rfl) (fun _ _ _ h => h) (Or.inl ⟨by rfl, ?_⟩) hS0 ?_
          · intro w' hSw
            first | (go_simp; done) | (go_simp; rfl) | (go_simp; exact Go.IntWalk.i64_in _ (by omega)) | (go_simp; simp only [*])
          simp only [Act.put, List.setIfInBounds_toArray, List.set_cons_zero, List.set_cons_succ]
          refine wpAnyX_take (i := 14) (oi := ⟨some 66, .move (.tmp 2), _, _, _, _⟩) (v := .slice (some ⟨be, oe, none⟩) l.length cl) rfl (by kernel_rfl) (by kernel_rfl) (by kernel_rfl) (by kernel_rfl) (fun _ _ _ h => h) (Or.inl ⟨by rfl, ?_⟩) hS0 ?_
          · intro w' hSw
            first | (go_simp; done) | (go_simp; rfl) | (go_simp; exact Go.IntWalk.i64_in _ (by omega)) | (go_simp; simp only [*])
          simp only [Act.put, List.setIfInBounds_toArray, List.set_cons_zero, List.set_cons_succ]
          refine wpAnyX_take (i := 15) (oi := ⟨some 67, .move (.tmp 9), _, _, _, _⟩) (v := .int .i64 (i : Int)) rfl (by kernel_rfl) (by kernel_rfl) (by kernel_rfl) (by kernel_rfl) (fun _ _ _ h => h) (Or.inl ⟨by rfl, ?_⟩) hS0 ?_
          · intro w' hSw
            first | (go_simp; done) | (go_simp; rfl) | (go_simp; exact Go.IntWalk.i64_in _ (by omega)) | (go_simp; simp only [*])
          simp only [Act.put, List.setIfInBounds_toArray, List.set_cons_zero, List.set_cons_succ]
          refine wpAnyX_take (i := 16) (oi := ⟨some 68, .indexAddr 56 (.tmp 66) (.tmp 67), _, _, _, _⟩) (v := .pointer (some ⟨be, (oe+i*5), none⟩)) rfl (by kernel_rfl) (by kernel_rfl) (by kernel_rfl) (by kernel_rfl) (fun _ _ _ h => h) (Or.inl ⟨by rfl, ?_⟩) hS0 ?_
          · intro w' hSw
            first | (go_simp; done) | (go_simp; rfl) | (go_simp; exact Go.IntWalk.i64_in _ (by omega)) | (go_simp; simp only [*])
          simp only [Act.put, List.setIfInBounds_toArray, List.set_cons_zero, List.set_cons_succ]
          refine wpAnyX_take (i := 17) (oi := ⟨some 69, .fieldAddr 92 (.tmp 68) 3, _, _, _, _⟩) (v := .pointer (some ⟨be, oe + i * 5 + 3, none⟩)) rfl (by kernel_rfl) (by kernel_rfl) (by kernel_rfl) (by kernel_rfl) (fun _ _ _ h => h) (Or.inl ⟨by rfl, ?_⟩) hS0 ?_
          · intro w' hSw
            first | (go_simp; done) | (go_simp; rfl) | (go_simp; exact Go.IntWalk.i64_in _ (by omega)) | (go_simp; simp only [*])
          simp only [Act.put, List.setIfInBounds_toArray, List.set_cons_zero, List.set_cons_succ]
          refine wpAnyX_take (i := 18) (oi := ⟨some 70, .load 5 (.tmp 69), _, _, _, _⟩) (v := .int .u8 (eX.toNat : Int)) rfl (by kernel_rfl) (by kernel_rfl) (by kernel_rfl) (by kernel_rfl) (fun _ _ _ h => h) (Or.inl ⟨by rfl, ?_⟩) hS0 ?_
          · intro w' hSw
            first | (go_simp; done) | (go_simp; rfl) | (go_simp; exact Go.IntWalk.i64_in _ (by omega)) | (go_simp; simp only [*])
          simp only [Act.put, List.setIfInBounds_toArray, List.set_cons_zero, List.set_cons_succ]
          refine wpAnyX_take (i := 19) (oi := ⟨some 71, .binOp BinOp.xor 5 (.tmp 65) (.tmp 70) 5, _, _, _, _⟩) (v := .int .u8 (y.toNat : Int)) rfl (by kernel_rfl) (by kernel_rfl) (by kernel_rfl) (by kernel_rfl) (fun _ _ _ h => h) (Or.inl ⟨by rfl, ?_⟩) hS0 ?_
          · intro w' hSw
            first | (go_simp; done) | (go_simp; rfl) | (go_simp; exact Go.IntWalk.i64_in _ (by omega)) | (go_simp; simp only [*])
          simp only [Act.put, List.setIfInBounds_toArray, List.set_cons_zero, List.set_cons_succ]
          refine wpAnyX_take (i := 20) (oi := ⟨some 72, .indexAddr 44 (.tmp 52) (.tmp 63), _, _, _, _⟩) (v := .pointer (some ⟨b, o + ka, none⟩)) rfl (by kernel_rfl) (by kernel_rfl) (by kernel_rfl) (by kernel_rfl) (fun _ _ _ h => h) (Or.inl ⟨by rfl, ?_⟩) hS0 ?_
          · intro w' hSw
            first | (go_simp; done) | (go_simp; rfl) | (go_simp; exact Go.IntWalk.i64_in _ (by omega)) | (go_simp; simp only [*])
          simp only [Act.put, List.setIfInBounds_toArray, List.set_cons_zero, List.set_cons_succ]
          refine wpAnyX_one (i := 21) (oi := ⟨none, .store 5 (.tmp 72) (.tmp 71), _, _, _, _⟩) rfl (by kernel_rfl) (fun K hK => ?_)
          go_simp
          refine hK _ _ ⟨.inl rfl, ?_⟩
          clear hK K
          try simp only [Act.put, List.setIfInBounds_toArray, List.set_cons_zero, List.set_cons_succ]
          refine wpAnyX_done (by kernel_rfl) ?_ _
          clear hS0 e1 e3 kb kf hk2 hk3 hk4 HAL2 HB e0 e2 e4 hu
          generalize ((wo.setCell ⟨b, o + ka, none⟩ (.int .u8 (y.toNat : Int))).drew) = w9 at *
          have HSt : Aside (AL (w9.setCell ⟨gA, kno, none⟩ (.slice (some ⟨b, o, none⟩) (n - q) c)) w.heap.size gA cA (vs.set kno (.slice (some ⟨b, o, none⟩) (n - q) c)) ∧ sumV (vs.set kno (.slice (some ⟨b, o, none⟩) (n - q) c)) ≤ sumV vs ∧ Below w.heap.size w (w9.setCell ⟨gA, kno, none⟩ (.slice (some ⟨b, o, none⟩) (n - q) c))) := ⟨HALb.out.set hkno HRu.out, sumV_set hkno (by rw [HUg.out]; exact Nat.sub_le _ _), HBb.out.setCell (p := ⟨gA, kno, none⟩) hgl _⟩
          go_wp2_with fail
          go_meet
          case rel => exact ⟨_, rfl, ⟨by simp⟩, ⟨HSt.out.2.2⟩, ⟨HSt.out.1⟩, ⟨HSt.out.2.1⟩⟩
      case rest =>
        obtain ⟨vs', rfl, HLv, HBx, HALx, HSx⟩ := hcut
        obtain ⟨wx, rfl⟩ : ∃ wx, wx = wc := ⟨_, rfl⟩
        have hmvc : ∀ (p : Addr) (v : Value), p.block = be → wo.cell? p = some v → wx.cell? p = some v := fun p v hp hc => (HBx.out.cell (by rw [hp]; exact HBe.out)).trans ((HB.out.cell (by rw [hp]; exact HBe.out)).symm.trans hc)
        have e4x := hmvc _ _ rfl e4
        have HAddx : Aside (Sl kbyte wx (fun k => ok k ∧ k < w.heap.size) (.slice Aa eAdd.length ca) eAdd) := ⟨sl_far (fun k hk => hk.2) HB.out HBx.out HAdd.out⟩
        clear e0 e1 e2 e3 e4 hu hmvc HAdd HCel HGA HAL2 HRr HVu HUg hk
        obtain ⟨hp1, hp2, hp3, hp4⟩ := HSm.out
        have HSp := Aside.mk HSm.out
        clear HSm
        by_cases hadd : 0 < eAdd.length ∧ eAdd.length < 2000
        · obtain ⟨ha1, ha2⟩ := hadd
          have hb1 : (0 : Int) < (eAdd.length : Int) := by omega
          have hb2 : (eAdd.length : Int) < 2000 := by omega
          obtain ⟨curx, hgx, hcsx, hx1, hx2, hx3, hcellx⟩ := HALx.out.blk
          have hkv : kno < vs'.length := by rw [HLv.out]; exact hkno
          have hk1 : (0 : Int) ≤ (kno : Int) + 1 := by omega
          have hk2 : (kno : Int) + 1 ≤ (cA : Int) := by omega
          have hk4 : (kno : Int) + 1 ≤ 9223372036854775807 := by omega
          have hk5 : (kno : Int) + 1 ≤ (vs.length : Int) := by omega
          have HBz := Aside.mk (HBx.out.alloc HBx.out.size (.cells #[] 44))
          have HOz : Aside ((wx.alloc (.cells #[] 44)).ownsRow w.heap.size 44 1 (.slice (some ⟨wx.heap.size, 0, none⟩) 0 0) 0 []) := ⟨⟨rfl, .inr ⟨wx.heap.size, 0, _, rfl, HBx.out.size, heap_alloc_new _ _, Nat.le_refl _, by simp [maxLen], rfl, rfl⟩⟩⟩
          have HCz : Aside (∀ ad, some (⟨gA, 0, none⟩ : Addr) = some ad → ∀ (j : Nat) (u : Value), (vs'.take (kno + 1))[j]? = some u → (wx.alloc (.cells #[] 44)).cell? (ad.add j) = some u) := ⟨fun ad e j u hu => by
            cases e
            rw [addr_add, Nat.zero_add]
            have hlt := (List.getElem?_eq_some_iff.1 hu).1
            rw [List.length_take] at hlt
            rw [List.getElem?_take_of_lt (by omega)] at hu
            exact bcell ((Below.refl wx.heap.size wx).alloc (Nat.le_refl _) _) (hcellx j u hu)⟩
          have HOnx : Aside (∀ u ∈ vs', u.oneCell' = true) := ⟨fun u hu => by
            obtain ⟨A, n, c, rfl, _⟩ := HALx.out.row u hu
            rfl⟩
          have hlt1 := Aside.mk (show (vs'.take (kno + 1)).length = kno + 1 by rw [List.length_take]; omega)
          clear hgx hcellx
          have HNx : Aside (∀ (v1 : Value) (w1 : World), w1.ownsRow w.heap.size 44 1 v1 (0 + (kno + 1)) ([] ++ vs'.take (kno + 1)) → (wx.alloc (.cells #[] 44)).grownBy w1 (Value.slice (some ⟨wx.heap.size, 0, none⟩) 0 0).ownBlock → (v1.ownBlock = (Value.slice (some ⟨wx.heap.size, 0, none⟩) 0 0).ownBlock ∨ v1.ownBlock = some (wx.alloc (.cells #[] 44)).heap.size) →
              ∃ gN cN, v1 = .slice (some ⟨gN, 0, none⟩) (kno + 1) cN ∧ wx.heap.size ≤ gN ∧ w1.ownsRow w.heap.size 44 1 (.slice (some ⟨gN, 0, none⟩) (kno + 1) cN) (kno + 1) (vs'.take (kno + 1)) ∧ Below wx.heap.size wx w1) := ⟨fun v1 w1 ho hg hat => by
            rw [Nat.zero_add, List.nil_append] at ho
            obtain ⟨gN, cN, rfl, _, _⟩ := own_pos ho (by omega)
            refine ⟨gN, cN, rfl, ?_, ho, (((Below.refl wx.heap.size wx).alloc (Nat.le_refl _) _).grown hg (by simp) fun q e => by cases e; exact Nat.le_refl _)⟩
            rcases hat with e | e
            · exact Nat.le_of_eq (Option.some.inj e).symm
            · have := Option.some.inj e
              simp at this
              omega⟩
          go_wp2_with (at_builtin; go_must (apply app_vals (B := w.heap.size) (v := .slice (some ⟨wx.heap.size, 0, none⟩) 0 0) (n := 0) (xs := []) (A := some ⟨gA, 0, none⟩) (c := cA) (k := kno + 1) (ys := vs'.take (kno + 1)) (hk := hlt1.out) (hA := fun e => by cases e) (HO := HOz.out) (hc := HCz.out) (h1 := fun u hu => HOnx.out u (List.mem_of_mem_take hu)) (hbase := HBz.out.size) (hl := by omega); (case ho => rfl); (case hgd => rfl); (case hs => rfl); (case hx => rfl); intro v4 w4 hown hg hat; obtain ⟨gN, cN, rfl, hgN, hoN, hbN⟩ := HNx.out v4 w4 hown hg hat; have HoN := Aside.mk hoN; have HbN := Aside.mk hbN; have HgN := Aside.mk hgN; have e4w := (hbN.cell (p := ⟨be, oe + i * 5 + 4, none⟩) (by have := HBe.out; have := HBx.out.size; show be < _; omega)).trans e4x; clear hown hg hat hoN hbN hgN))
          have HAdd4 := Aside.mk (sl_far (fun k (hk : (fun k => ok k ∧ k < w.heap.size) k) => hk.2) HBx.out (bthen HBx.out HBx.out.size HbN.out) HAddx.out)
          refine (Bytes_any HAdd4.out (by omega)).mono ?_
          rintro e w5 ⟨vR, rfl, hoR, B5⟩
          have HoR := Aside.mk hoR
          have HB5 := Aside.mk B5
          obtain ⟨AR, cR, rfl⟩ := own_sl hoR
          have e4v := bcell B5 e4w
          have HoN5 := Aside.mk (ownsRow_move HoN.out fun q e => B5.block q (HoN.out.lt q e).2)
          have HBx5 := Aside.mk (bthen HBx.out HBx.out.size (bthen HbN.out HbN.out.size B5))
          have hgAx : gA < wx.heap.size := (HALx.out.own.lt gA rfl).2
          have HgAx := Aside.mk hgAx
          have HNy : Aside (∀ (v1 : Value) (w1 : World), w1.ownsRow w.heap.size 44 1 v1 (kno + 1 + 1) (vs'.take (kno + 1) ++ [Value.slice AR eAdd.length cR]) → w5.grownBy w1 (Value.slice (some ⟨gN, 0, none⟩) (kno + 1) cN).ownBlock → (v1.ownBlock = (Value.slice (some ⟨gN, 0, none⟩) (kno + 1) cN).ownBlock ∨ v1.ownBlock = some (w5.heap.size + 1)) →
              ∃ gP cP, v1 = .slice (some ⟨gP, 0, none⟩) (kno + 1 + 1) cP ∧ (gP = gN ∨ gP = w5.heap.size + 1) ∧ w1.ownsRow w.heap.size 44 1 (.slice (some ⟨gP, 0, none⟩) (kno + 1 + 1) cP) (kno + 1 + 1) (vs'.take (kno + 1) ++ [Value.slice AR eAdd.length cR]) ∧ (∀ b, b < w5.heap.size → b ≠ gN → w1.heap[b]? = w5.heap[b]?) ∧ Below w.heap.size w w1 ∧ w5.heap.size ≤ w1.heap.size) := ⟨fun v1 w1 ho hg hat => by
            obtain ⟨gP, cP, rfl, _, _⟩ := own_pos ho (by omega)
            refine ⟨gP, cP, rfl, ?_, ho, fun b hb hn => hg.block b hb fun e => hn (Option.some.inj e), HBx5.out.grown hg HBx5.out.size fun q e => by have e2 : gN = q := Option.some.inj e; have := HgN.out; have := HBx.out.size; omega, hg.size⟩
            rcases hat with e | e
            · exact .inl (Option.some.inj e)
            · exact .inr (Option.some.inj e)⟩
          have hkc : (kno : Int) + 1 ≤ (cA : Int) := hk2
          have HCy : ∀ w6 : World, (∀ b, b < w5.heap.size → b ≠ gN → w6.heap[b]? = w5.heap[b]?) → Aside (∀ (j : Nat) (u : Value), vs'[j]? = some u → w6.cell? ⟨gA, j, none⟩ = some u) := fun w6 hm => ⟨fun j u hu => by
            have h1 := HALx.out.blk
            obtain ⟨_, _, _, _, _, _, hc⟩ := h1
            have h2 := hc j u hu
            have h3 : w5.cell? ⟨gA, j, none⟩ = some u := (B5.cell (p := ⟨gA, j, none⟩) (by have := HbN.out.size; show gA < _; omega)).trans ((HbN.out.cell (p := ⟨gA, j, none⟩) hgAx).trans h2)
            exact (World.cell?_of_block (hm gA (by have := HbN.out.size; have := B5.size; omega) (by have := HgN.out; omega))).trans h3⟩
          have HCy' := Aside.mk HCy
          have hkl : (vs'.drop (kno + 1)).length = vs.length - (kno + 1) := by rw [List.length_drop, HLv.out]
          have HKl := Aside.mk hkl
          have hsl : ((vs.length : Int) - ((kno : Int) + 1)) = ((vs.length - (kno + 1) : Nat) : Int) := by omega
          clear hoR B5 HCy hkl hsl e4w
          have hl15 : kno + 1 ≤ 200000 := by have := HT.out.2; omega
          go_upto_region 14 with (at_builtin; go_must (apply app_one (B := w.heap.size) (z := .slice none 0 0) (size := 1) (bytes := 24) (v := .slice (some ⟨gN, 0, none⟩) (kno + 1) cN) (n := kno + 1) (xs := vs'.take (kno + 1)) (ys := [.slice AR eAdd.length cR]) (HO := HoN5.out) (hbase := HBx5.out.size) (hl := by omega) (ht := Tryz.underlying45) (hinfo := Tryz.infoBytes) (hz := rfl) (hsz := by decide) (hb0 := by decide) (hy := rfl) (h1 := by simp [Value.oneCell']); (case ho => rfl); (case hgd => rfl); (case hs => rfl); (case hx => rfl); intro v6 w6 hown hg hat; obtain ⟨gP, cP, rfl, hgP, hoP, hmP, hbP, hsP⟩ := HNy.out v6 w6 hown hg hat; have HoP := Aside.mk hoP; have HbP := Aside.mk hbP; have HgP := Aside.mk hgP; have HsP := Aside.mk hsP; have HmP := Aside.mk hmP; have HcP := HCy'.out w6 hmP; clear hown hg hat hoP hbP hgP hsP hmP))
          have HLL : Aside (((vs'.take (kno + 1) ++ [Value.slice AR eAdd.length cR]) ++ vs'.drop (kno + 1)).length = kno + 1 + 1 + (vs.length - (kno + 1))) := ⟨by
            rw [List.length_append, List.length_append, hlt1.out, HKl.out]; rfl⟩
          have HR7 : Aside (0 < ((vs'.take (kno + 1) ++ [Value.slice AR eAdd.length cR]) ++ vs'.drop (kno + 1)).length ∧ ((vs'.take (kno + 1) ++ [Value.slice AR eAdd.length cR]) ++ vs'.drop (kno + 1)).length ≤ data.length + 1 + (i + 1) ∧ sumV ((vs'.take (kno + 1) ++ [Value.slice AR eAdd.length cR]) ++ vs'.drop (kno + 1)) ≤ head.length + sumL data + 2000 * (i + 1) ∧ i + 1 ≤ 20) := ⟨by
            have h1 : sumV vs' = sumV (vs'.take (kno + 1)) + sumV (vs'.drop (kno + 1)) := by rw [← sumV_append, List.take_append_drop]
            have h2 : sumV [Value.slice AR eAdd.length cR] = eAdd.length := by simp [sumV, lenV]
            rw [HLL.out, sumV_append, sumV_append, h2]
            have := HSx.out
            omega⟩
          have HNz : Aside (∀ (v1 : Value) (w1 : World), w1.ownsRow w.heap.size 44 1 v1 (kno + 1 + 1 + (vs.length - (kno + 1))) ((vs'.take (kno + 1) ++ [Value.slice AR eAdd.length cR]) ++ vs'.drop (kno + 1)) → w6.grownBy w1 (Value.slice (some ⟨gP, 0, none⟩) (kno + 1 + 1) cP).ownBlock → (v1.ownBlock = (Value.slice (some ⟨gP, 0, none⟩) (kno + 1 + 1) cP).ownBlock ∨ v1.ownBlock = some w6.heap.size) →
              ∃ gQ cQ, v1 = .slice (some ⟨gQ, 0, none⟩) (kno + 1 + 1 + (vs.length - (kno + 1))) cQ ∧ AL w1 w.heap.size gQ cQ ((vs'.take (kno + 1) ++ [Value.slice AR eAdd.length cR]) ++ vs'.drop (kno + 1)) ∧ Below w.heap.size w w1) := ⟨fun v1 w1 ho hg hat => by
            obtain ⟨gQ, cQ, rfl, _, _⟩ := own_pos ho (by omega)
            have hgQ : gQ = gP ∨ gQ = w6.heap.size := by
              rcases hat with e | e
              · exact .inl (Option.some.inj e)
              · exact .inr (Option.some.inj e)
            have hgP := HgP.out
            have hs6 := HsP.out
            have hs4 := HbN.out.size
            have hs5 := HB5.out.size
            have hgN := HgN.out
            have hgN4 : gN < w4.heap.size := (HoN.out.lt gN rfl).2
            have hch : ∀ b, b < w5.heap.size → b ≠ gN → w1.heap[b]? = w5.heap[b]? := fun b hb hn => (hg.block b (by omega) fun e => by have e2 : b = gP := Option.some.inj e; omega).trans (HmP.out b hb hn)
            have hrow : ∀ u ∈ vs', Rwv w1 w.heap.size gQ u := fun u hu => (HALx.out.row u hu).to (fun b _ hb hn => (hch b (by omega) (by omega)).trans ((HB5.out.block b (by omega)).trans (HbN.out.block b hb))) (.inr (by omega)) (Nat.le_refl _)
            refine ⟨gQ, cQ, rfl, ⟨by rw [HLL.out]; exact ho, fun u hu => ?_⟩, HbP.out.grown hg HbP.out.size fun q e => by have e2 : gP = q := Option.some.inj e; have := HBx.out.size; omega⟩
            rcases List.mem_append.1 hu with hu | hu
            · rcases List.mem_append.1 hu with hu | hu
              · exact hrow u (List.mem_of_mem_take hu)
              · rw [List.mem_singleton.1 hu]
                have hr : Rwv w5 w4.heap.size gN (.slice AR eAdd.length cR) := Rwv.own HoR.out fun e => by have := (HoR.out.lt gN e).1; omega
                exact hr.to (fun b _ hb hn => hch b hb hn) (by omega) (by have := HBx.out.size; omega)
            · exact hrow u (List.mem_of_mem_drop hu)⟩
          have hk6 : (kno : Int) + 1 ≤ (vs.length : Int) := hk5
          have hlb : vs.length ≤ 200000 := by have := HT.out.2; omega
          by_cases hcA : cA = kno + 1
          · have hd0 : vs.length - (kno + 1) = 0 := by omega
            have HCd : Aside (∀ ad, some (⟨gA, 0, none⟩ : Addr) = some ad → ∀ (j : Nat) (u : Value), (vs'.drop (kno + 1))[j]? = some u → w6.cell? (ad.add j) = some u) := ⟨fun ad e j u hu => by
              have := (List.getElem?_eq_some_iff.1 hu).1
              rw [HKl.out] at this
              omega⟩
            have hdn : vs'.drop (kno + 1) = [] := List.eq_nil_of_length_eq_zero (by rw [HKl.out]; exact hd0)
            have HNz' := HNz
            rw [hd0, hdn] at HNz' HLL
            rw [hdn] at HR7
            clear hdn hd0 HCd HNz
            subst hcA
            go_wp2_with (at_builtin; go_must (apply app_vals (B := w.heap.size) (v := .slice (some ⟨gP, 0, none⟩) (kno + 1 + 1) cP) (n := kno + 1 + 1) (xs := vs'.take (kno + 1) ++ [.slice AR eAdd.length cR]) (A := some ⟨gA, 0, none⟩) (c := 0) (k := 0) (ys := []) (hk := rfl) (hA := fun e => by cases e) (HO := HoP.out) (hc := (fun ad e j u hu => by simp at hu)) (h1 := fun u hu => by simp at hu) (hbase := HbP.out.size) (hl := by omega); (case ho => rfl); (case hgd => rfl); (case hs => rfl); (case hx => rfl); intro v7 w7 hown hg hat; obtain ⟨gQ, cQ, rfl, hAL, hbQ⟩ := HNz'.out v7 w7 hown hg hat; have HAL7 := Aside.mk hAL; have HbQ := Aside.mk hbQ; clear hown hg hat hAL hbQ))
            go_roundg (l.length - (i + 1))
            case measure => exact hM.out.1
            case rel => exact ⟨i + 1, (vs'.take (kno + 1) ++ [.slice AR eAdd.length cR]) ++ [], gQ, cQ, ⟨hM.out.2⟩, by go_num, by rw [HLL.out], HbQ, HAL7, HR7⟩
          · have hcA2 : ¬ (cA = kno + 1) := hcA
            have HCd : Aside (∀ ad, some (⟨gA, kno + 1, none⟩ : Addr) = some ad → ∀ (j : Nat) (u : Value), (vs'.drop (kno + 1))[j]? = some u → w6.cell? (ad.add j) = some u) := ⟨fun ad e j u hu => by
              cases e
              rw [addr_add]
              rw [List.getElem?_drop] at hu
              exact HcP.out _ u hu⟩
            go_wp2_with (at_builtin; go_must (apply app_vals (B := w.heap.size) (v := .slice (some ⟨gP, 0, none⟩) (kno + 1 + 1) cP) (n := kno + 1 + 1) (xs := vs'.take (kno + 1) ++ [.slice AR eAdd.length cR]) (A := some ⟨gA, kno + 1, none⟩) (c := cA - (kno + 1)) (k := vs.length - (kno + 1)) (ys := vs'.drop (kno + 1)) (hk := HKl.out) (hA := fun e => by cases e) (HO := HoP.out) (hc := HCd.out) (h1 := fun u hu => HOnx.out u (List.mem_of_mem_drop hu)) (hbase := HbP.out.size) (hl := by omega); (case ho => rfl); (case hgd => rfl); (case hs => rfl); (case hx => rfl); intro v7 w7 hown hg hat; obtain ⟨gQ, cQ, rfl, hAL, hbQ⟩ := HNz.out v7 w7 hown hg hat; have HAL7 := Aside.mk hAL; have HbQ := Aside.mk hbQ; clear hown hg hat hAL hbQ))
            go_roundg (l.length - (i + 1))
            case measure => exact hM.out.1
            case rel => exact ⟨i + 1, (vs'.take (kno + 1) ++ [Value.slice AR eAdd.length cR]) ++ vs'.drop (kno + 1), gQ, cQ, ⟨hM.out.2⟩, by go_num, by rw [HLL.out], HbQ, HAL7, HR7⟩
        · have hcond : Aside (¬ (0 < eAdd.length) ∨ ¬ (eAdd.length < 2000)) := ⟨by omega⟩
          have HR1 : Aside (0 < vs'.length ∧ vs'.length ≤ data.length + 1 + (i + 1) ∧ sumV vs' ≤ head.length + sumL data + 2000 * (i + 1) ∧ i + 1 ≤ 20) := ⟨by have := HLv.out; have := HSx.out; omega⟩
          clear hadd
          rcases hcond.out with hc | hc
          · have hc1 : ¬ ((0 : Int) < (eAdd.length : Int)) := by omega
            go_wp2_with fail
            go_roundg (l.length - (i + 1))
            case measure => exact hM.out.1
            case rel => exact ⟨i + 1, vs', gA, cA, ⟨hM.out.2⟩, by go_num, by rw [HLv.out], HBx, HALx, HR1⟩
          · have hc1 : (0 : Int) < (eAdd.length : Int) := by omega
            have hc2 : ¬ ((eAdd.length : Int) < 2000) := by omega
            have hc3 : 0 < eAdd.length := by omega
            go_wp2_with fail
            go_roundg (l.length - (i + 1))
            case measure => exact hM.out.1
            case rel => exact ⟨i + 1, vs', gA, cA, ⟨hM.out.2⟩, by go_num, by rw [HLv.out], HBx, HALx, HR1⟩
    · have hcond : Aside (¬ (i < l.length) ∨ ¬ (i < 20)) := ⟨by omega⟩
      obtain ⟨cur, hgA, hcs, hcA1, hcA2, hgl, hcell⟩ := HAL.out.blk
      have hp := HSm.out.1
      obtain ⟨A, n, c, he0, _⟩ := HAL.out.row vs[0] (List.getElem_mem hp)
      have k0 := hcell 0 vs[0] (List.getElem?_eq_getElem hp)
      have HPo : Aside (∀ W, Below wo.heap.size wo W → ∃ (hd : List UInt8) (tl : List (List UInt8)), Sl kbyte W (w.heap.size ≤ ·) (vs[0]) hd ∧ Sl (kslice kbyte) W (w.heap.size ≤ ·) (.slice (some ⟨gA, 1, none⟩) (vs.length - 1) (cA - 1)) tl ∧ hd.length + sumL tl = sumV vs ∧ tl.length = vs.length - 1) := ⟨fun W hW => (HAL.out.below hW).out hp⟩
      rw [he0] at k0 HPo
      have HPp : Aside (∀ W, Below wo.heap.size wo W → EdPost w (head.length + sumL data) data.length (.returned (.tuple #[.slice A n c, .slice (some ⟨gA, 1, none⟩) (vs.length - 1) (cA - 1)])) W ∧ (cA = 1 → EdPost w (head.length + sumL data) data.length (.returned (.tuple #[.slice A n c, .slice (some ⟨gA, 0, none⟩) 0 0])) W)) := ⟨fun W hW => by
        obtain ⟨hd, tl, h1, h2, h3, h4⟩ := HPo.out W hW
        have hS := HSm.out
        refine ⟨⟨_, _, hd, tl, rfl, h1, h2, by omega, by omega, bthen HB.out HB.out.size hW⟩, fun hc => ?_⟩
        have htl : tl = [] := List.eq_nil_of_length_eq_zero (by omega)
        subst htl
        refine ⟨_, _, hd, [], rfl, h1, ?_, by have h5 : sumL [] = 0 := rfl; omega, by simp, bthen HB.out HB.out.size hW⟩
        exact ⟨_, 0, rfl, Nat.le_refl _, by decide, fun h => absurd h (Nat.lt_irrefl 0)⟩⟩
      have v1 : (1 : Int) ≤ (vs.length : Int) := by omega
      have v2 : (vs.length : Int) ≤ (cA : Int) := by omega
      have v3 : (0 : Int) < (vs.length : Int) := by omega
      have HI2 := HI
      have hcA3 := hcA1
      clear hi hcell hgA HAL HB HE HI HPo
      by_cases hc1 : cA = 1
      · subst hc1
        have HPq := Aside.mk ((HPp.out wo.drew (bdrew1 (Below.refl _ _))).2 rfl)
        rcases hcond.out with hc | hc
        · have hi1 : ¬ ((i : Int) < (l.length : Int)) := by omega
          go_wp2_with fail
          go_region
          all_goals go_wp2_with fail
          all_goals exact bodyPost_ret (by simp [results, Tryz.results30, go_sem]) rfl HPq.out
        · have hi1 : (i : Int) < (l.length : Int) ∨ ¬ ((i : Int) < (l.length : Int)) := by omega
          have hi2 : ¬ ((i : Int) < 20) := by omega
          rcases hi1 with hi1 | hi1
          all_goals go_wp2_with fail
          all_goals go_region
          all_goals go_wp2_with fail
          all_goals exact bodyPost_ret (by simp [results, Tryz.results30, go_sem]) rfl HPq.out
      · have HPq := Aside.mk (HPp.out wo.drew (bdrew1 (Below.refl _ _))).1
        rcases hcond.out with hc | hc
        · have hi1 : ¬ ((i : Int) < (l.length : Int)) := by omega
          go_wp2_with fail
          go_region
          all_goals go_wp2_with fail
          all_goals exact bodyPost_ret (by simp [results, Tryz.results30, go_sem]) rfl HPq.out
        · have hi1 : (i : Int) < (l.length : Int) ∨ ¬ ((i : Int) < (l.length : Int)) := by omega
          have hi2 : ¬ ((i : Int) < 20) := by omega
          rcases hi1 with hi1 | hi1
          all_goals go_wp2_with fail
          all_goals go_region
          all_goals go_wp2_with fail
          all_goals exact bodyPost_ret (by simp [results, Tryz.results30, go_sem]) rfl HPq.out
end Go.Proofs.YtgbladpoglhleaaGreatDoor
