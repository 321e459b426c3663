/- Rows of whatever bytes, turned in places. No condition. -/
import Derived.Test.YtjncnppbaldmiaaGreatDoorOk
namespace Go.Proofs.YtjncnppbaldmiaaGreatDoor
open Go.RowKit Go.Shelf
theorem idx_ok (i : Int) {n : Nat} (h : 0 < n) (hn : n ≤ 1099511627776) : ∃ j : Nat, j < n ∧ (wrap64 (i.tmod n + n)).tmod n = (j : Int) := by
  have h0 : (0 : Int) < (n : Int) := by omega
  have h1 := Int.tmod_lt_of_pos i h0
  have h2 : -(n : Int) < i.tmod n := Int.lt_tmod_of_pos i h0
  have e : wrap64 (i.tmod n + n) = i.tmod n + n := by unfold wrap64; omega
  rw [e, Int.tmod_eq_emod_of_nonneg (by omega)]
  have h3 := Int.emod_nonneg (i.tmod n + n) (show (n : Int) ≠ 0 by omega)
  have h4 := Int.emod_lt_of_pos (i.tmod n + n) h0
  exact ⟨((i.tmod n + n) % n).toNat, by omega, by omega⟩
/-- Some bytes, in a block that is none of ng. -/
def Rwv (w : World) (lo ng : Nat) (u : Value) : Prop :=
  ∃ A n c, u = .slice A n c ∧ n ≤ c ∧ c ≤ 9223372036854775807 ∧ (0 < n → ∃ (b o : Nat) (cur : Array Value), A = some ⟨b, o, none⟩ ∧ lo ≤ b ∧ b ≠ ng ∧ w.heap[b]? = some (.cells cur 5 (0, 0)) ∧ ∀ j, j < n → ∃ x : UInt8, cur[o + j]? = some (.int .u8 x.toNat))
section
variable {w w1 : World} {lo ng : Nat} {u : Value}
theorem Rwv.move (h : Rwv w lo ng u) (hm : ∀ b, lo ≤ b → b < w.heap.size → b ≠ ng → w1.heap[b]? = w.heap[b]?) : Rwv w1 lo ng u := by
  obtain ⟨A, n, c, e, h1, h2, h3⟩ := h
  refine ⟨A, n, c, e, h1, h2, fun hn => ?_⟩
  obtain ⟨b, o, cur, e2, h4, h5, h6, h7⟩ := h3 hn
  exact ⟨b, o, cur, e2, h4, h5, (hm b h4 (blk_lt h6) h5).trans h6, h7⟩
theorem Rwv.other {ng' : Nat} (h : Rwv w lo ng u) (hn : w.heap.size ≤ ng') : Rwv w lo ng' u := by
  obtain ⟨A, n, c, e, h1, h2, h3⟩ := h
  refine ⟨A, n, c, e, h1, h2, fun hn0 => ?_⟩
  obtain ⟨b, o, cur, e2, h4, h5, h6, h7⟩ := h3 hn0
  exact ⟨b, o, cur, e2, h4, by have := blk_lt h6; omega, h6, h7⟩
theorem Rwv.to {ng' lo' : Nat} (h : Rwv w lo ng u) (hm : ∀ b, lo ≤ b → b < w.heap.size → b ≠ ng → w1.heap[b]? = w.heap[b]?) (hn : ng' = ng ∨ w.heap.size ≤ ng') (hl : lo' ≤ lo) : Rwv w1 lo' ng' u := by
  obtain ⟨A, n, c, e, h1, h2, h3⟩ := h
  refine ⟨A, n, c, e, h1, h2, fun hn0 => ?_⟩
  obtain ⟨b, o, cur, e2, h4, h5, h6, h7⟩ := h3 hn0
  exact ⟨b, o, cur, e2, Nat.le_trans hl h4, fun e => by
    rcases hn with hn | hn
    · exact h5 (e.trans hn)
    · have := blk_lt h6
      omega, (hm b h4 (blk_lt h6) h5).trans h6, h7⟩
theorem Rwv.set (h : Rwv w lo ng u) (b0 o0 : Nat) (y : UInt8) : Rwv (w.setCell ⟨b0, o0, none⟩ (.int .u8 y.toNat)) lo ng u := by
  obtain ⟨A, n, c, e, h1, h2, h3⟩ := h
  refine ⟨A, n, c, e, h1, h2, fun hn => ?_⟩
  obtain ⟨b, o, cur, e2, h4, h5, h6, h7⟩ := h3 hn
  by_cases hb : b = b0
  · subst hb
    refine ⟨b, o, cur.setIfInBounds o0 (.int .u8 y.toNat), e2, h4, h5, ?_, fun j hj => ?_⟩
    · simp [World.setCell, Array.getElem?_modify, h6]
    · obtain ⟨x, hx⟩ := h7 j hj
      rw [Array.getElem?_setIfInBounds]
      split
      · split
        · exact ⟨y, rfl⟩
        · rename_i h8 h9
          have := (Array.getElem?_eq_some_iff.1 hx).1
          omega
      · exact ⟨x, hx⟩
  · exact ⟨b, o, cur, e2, h4, h5, (Below.heap_setCell _ _ _ _ hb).trans h6, h7⟩
theorem Rwv.cut {A : Option Addr} {n c m : Nat} (h : Rwv w lo ng (.slice A n c)) (hm : m ≤ n) : Rwv w lo ng (.slice A m c) := by
  obtain ⟨A, n, c, e, h1, h2, h3⟩ := h
  cases e
  refine ⟨A, m, c, rfl, by omega, h2, fun hn => ?_⟩
  obtain ⟨b, o, cur, e2, h4, h5, h6, h7⟩ := h3 (by omega)
  exact ⟨b, o, cur, e2, h4, h5, h6, fun j hj => h7 j (by omega)⟩
theorem Rwv.own {n : Nat} {bs : List UInt8} (h : w.ownsRow lo 5 1 u n (u8s bs)) (hn : u.ownBlock ≠ some ng) : Rwv w lo ng u := by
  have hl := h.1
  rw [u8s_length] at hl
  rcases h.2 with ⟨rfl, h0⟩ | ⟨g, cap, cur, rfl, h1, h2, h3, h4, h5, h6⟩
  · exact ⟨none, 0, 0, rfl, Nat.le_refl _, by decide, fun h => absurd h (Nat.lt_irrefl 0)⟩
  · refine ⟨_, n, cap, rfl, h3, by simp only [maxLen] at h4; omega, fun _ => ⟨g, 0, cur, rfl, h1, fun e => hn (by rw [e]; rfl), h2, fun j hj => ?_⟩⟩
    have h7 : (cur.toList.take (n * 1))[j]? = (u8s bs)[j]? := by rw [h6]
    rw [List.getElem?_take_of_lt (by omega)] at h7
    unfold u8s at h7
    rw [List.getElem?_map, List.getElem?_eq_getElem (l := bs) (by omega)] at h7
    exact ⟨bs[j]'(by omega), by simpa using h7⟩
theorem Rwv.sl (h : Rwv w lo ng u) : ∃ A n c bs, u = .slice A n c ∧ bs.length = n ∧ Sl kbyte w (fun k => lo ≤ k ∧ k ≠ ng) u bs := by
  obtain ⟨A, n, c, rfl, h1, h2, h3⟩ := h
  rcases Nat.eq_zero_or_pos n with rfl | hn
  · exact ⟨A, 0, c, [], rfl, rfl, A, c, rfl, by simp, h2, fun h => absurd h (Nat.lt_irrefl 0)⟩
  · obtain ⟨b, o, cur, rfl, h4, h5, h6, h7⟩ := h3 hn
    refine ⟨_, n, c, (List.range n).map fun j => match cur[o + j]? with | some (.int _ x) => UInt8.ofNat x.toNat | _ => 0, rfl, by simp, _, c, by simp, by simpa using h1, h2, fun _ => ⟨b, o, rfl, ⟨h4, h5⟩, blk_lt h6, fun i x hx => ?_⟩⟩
    obtain ⟨hi, hx⟩ := List.getElem?_eq_some_iff.1 hx
    rw [List.length_map, List.length_range] at hi
    rw [List.getElem_map, List.getElem_range] at hx
    obtain ⟨y, hy⟩ := h7 i hi
    rw [hy] at hx
    have hyx : y = x := by rw [← hx]; simp
    subst hyx
    refine ⟨_, rfl, fun j v hj => ?_⟩
    cases j with
    | zero =>
      cases hj
      have hlt := (Array.getElem?_eq_some_iff.1 hy)
      obtain ⟨hlt, hy⟩ := hlt
      simp [World.cell?, h6, kbyte, flat, hlt, hy]
    | succ j => simp at hj
end
def lenV : Value → Nat
  | .slice _ n _ => n
  | _ => 0
def sumV (vs : List Value) : Nat := (vs.map lenV).sum
/-- All payloads, under way. -/
structure AL (w : World) (lo gA cA : Nat) (vs : List Value) : Prop where
  own : w.ownsRow lo 25 1 (.slice (some ⟨gA, 0, none⟩) vs.length cA) vs.length vs
  row : ∀ u ∈ vs, Rwv w lo gA u
/-- append(v, x...) of rows that lie anywhere. -/
theorem app_vals {ops : Array Oper} {rest : List Oper} {o : Oper} {a : Act} {Q : Exit → Act → World → Prop} {w : World} (B : Nat) (hgd : o.guard = none) (s x : Operand)
    (ho : o.op = .call { callee := .builtin .append, args := #[s, x], argTypes := #[26, 26] })
    (v : Value) (n : Nat) (xs : List Value) (A : Option Addr) (c k : Nat) (ys : List Value) (hs : a.eval s = v) (hx : a.eval x = .slice A k c) (hk : ys.length = k) (hA : A = none → k = 0) (HO : w.ownsRow B 25 1 v n xs)
    (hc : ∀ ad, A = some ad → ∀ (j : Nat) (u : Value), ys[j]? = some u → w.cell? (ad.add j) = some u) (h1 : ∀ u ∈ ys, u.oneCell' = true) (hbase : B ≤ w.heap.size) (hl : (n + k) * 24 ≤ 140737488355328)
    (h : ∀ v1 w1, w1.ownsRow B 25 1 v1 (n + k) (xs ++ ys) → w.grownBy w1 v.ownBlock → (v1.ownBlock = v.ownBlock ∨ v1.ownBlock = some w.heap.size) → wpList Tryz.prog ops Q rest (a.put o.dst v1) w1) :
    wpList Tryz.prog ops Q (o :: rest) a w := by
  obtain ⟨i0, hi, hz0, hz1, hz2⟩ := info_parts Tryz.infoBytes
  cases A with
  | none =>
    have h0 := hA rfl
    subst h0
    have := List.eq_nil_of_length_eq_zero hk
    subst this
    refine wpList_plain hgd fun K hK => ?_
    have hrun := run_append_none' (P := Tryz.prog) (w := w) B 26 o.type 25 i0 1 c Tryz.underlying26 hi v n xs HO
    unfold Oper.wp
    simp [execOp, ho, resolve, invoke, builtin, hs, hx, hrun, Result.andThen]
    exact hK _ _ (h v w (by simpa using HO) ⟨rfl, rfl, rfl, Nat.le_refl _, fun _ _ _ => rfl⟩ (.inl rfl))
  | some ad =>
    exact wpList_append_own_at w hgd s x 26 ho B 25 i0 _ 1 24 Tryz.underlying26 hi hz0 hz1 hz2 rfl (by decide) v n xs hs HO ad k c ys hx (by omega) (hc ad rfl)
      h1 (by simp only [maxLen]; omega) hl hbase fun v1 w1 h1 h2 _ h4 => h v1 w1 h1 h2 h4
theorem AL.blk {w : World} {lo gA cA : Nat} {vs : List Value} (h : AL w lo gA cA vs) : ∃ cur : Array Value, w.heap[gA]? = some (.cells cur 25 (0, 0)) ∧ cur.size = cA ∧ vs.length ≤ cA ∧ cA ≤ 9223372036854775807 ∧ lo ≤ gA ∧ ∀ (k : Nat) (u : Value), vs[k]? = some u → w.cell? ⟨gA, k, none⟩ = some u := by
  rcases h.own.2 with ⟨e, _⟩ | ⟨g, cap, cur, e, h1, h2, h3, h4, h5, h6⟩
  · cases e
  · cases e
    refine ⟨cur, h2, by simpa using h5, h3, by simp only [maxLen] at h4; omega, h1, fun k u hk => ?_⟩
    have := h.own.cells (g := gA) rfl k u hk
    rw [addr_add] at this
    simpa using this
theorem BL.rwv {w : World} {lo ng i : Nat} {dv u : Value} {vs : List Value} {bss : List (List UInt8)} (h : BL w lo dv vs bss) (hu : vs[i]? = some u) (hn : u.ownBlock ≠ some ng) : Rwv w lo ng u ∧ ∃ bs, bss[i]? = some bs ∧ lenV u = bs.length := by
  have hl := h.len
  have hi := (List.getElem?_eq_some_iff.1 hu).1
  have hb : bss[i]? = some bss[i] := List.getElem?_eq_getElem (by omega)
  have ho := h.row i u _ hu hb
  obtain ⟨A, c, e⟩ := own_len ho
  exact ⟨Rwv.own ho hn, _, hb, by rw [e]; rfl⟩
theorem sumV_append (a b : List Value) : sumV (a ++ b) = sumV a + sumV b := by simp [sumV]
theorem BL.sumV {w : World} {lo : Nat} {dv : Value} {vs : List Value} {bss : List (List UInt8)} (h : BL w lo dv vs bss) : sumV vs = sumL bss := by
  have hl := h.len
  have e : vs.map lenV = bss.map List.length := by
    refine List.ext_getElem (by simp [hl]) fun i h1 h2 => ?_
    rw [List.length_map] at h1
    obtain ⟨A, c, e⟩ := own_len (h.row i vs[i] (bss[i]'(by omega)) (List.getElem?_eq_getElem h1) (List.getElem?_eq_getElem _))
    rw [List.getElem_map, List.getElem_map, e]
    rfl
  unfold Go.Proofs.YtjncnppbaldmiaaGreatDoor.sumV sumL
  rw [e]
theorem idx_two (i : Int) {n : Nat} (h : 0 < n) : ∃ j : Nat, j < n ∧ (i.tmod n + n).tmod n = (j : Int) ∧ 0 ≤ i.tmod n + n ∧ i.tmod n + n ≤ 2 * n := by
  have h0 : (0 : Int) < (n : Int) := by omega
  have h1 := Int.tmod_lt_of_pos i h0
  have h2 : -(n : Int) < i.tmod n := Int.lt_tmod_of_pos i h0
  rw [Int.tmod_eq_emod_of_nonneg (by omega)]
  have h3 := Int.emod_nonneg (i.tmod n + n) (show (n : Int) ≠ 0 by omega)
  have h4 := Int.emod_lt_of_pos (i.tmod n + n) h0
  exact ⟨((i.tmod n + n) % n).toNat, by omega, by omega, by omega, by omega⟩
theorem xor8 (x y : UInt8) : bits .xor .u8 (x.toNat : Int) (y.toNat : Int) = ((x ^^^ y).toNat : Int) := by
  have h1 : ∀ z : UInt8, (BitVec.ofInt 8 (z.toNat : Int)).toNat = z.toNat := fun z => by
    rw [BitVec.ofInt_natCast, BitVec.toNat_ofNat]; exact Nat.mod_eq_of_lt z.toNat_lt
  show IntKind.u8.wrap ((BitVec.ofInt 8 (x.toNat : Int) ^^^ BitVec.ofInt 8 (y.toNat : Int)).toNat : Int) = _
  rw [BitVec.toNat_xor, h1, h1, UInt8.toNat_xor]
  have := (x ^^^ y).toNat_lt
  rw [UInt8.toNat_xor] at this
  exact Go.IntWalk.u8_in _ (by omega)
theorem AL.byte {w : World} {lo gA cA b o : Nat} {vs : List Value} (h : AL w lo gA cA vs) (hb : b ≠ gA) (y : UInt8) : AL (w.setCell ⟨b, o, none⟩ (.int .u8 y.toNat)) lo gA cA vs :=
  ⟨ownsRow_move h.own fun q e => Below.heap_setCell _ _ _ _ (by cases e; exact fun e2 => hb e2.symm), fun u hu => (h.row u hu).set b o y⟩
theorem AL.set {w : World} {lo gA cA k : Nat} {vs : List Value} {u : Value} (h : AL w lo gA cA vs) (_ : k < vs.length) (hu : Rwv w lo gA u) : AL (w.setCell ⟨gA, k, none⟩ u) lo gA cA (vs.set k u) := by
  have hfar : ∀ b, b ≠ gA → (w.setCell ⟨gA, k, none⟩ u).heap[b]? = w.heap[b]? := fun b hb => Below.heap_setCell _ _ _ _ hb
  refine ⟨⟨by rw [List.length_set]; exact h.own.1, ?_⟩, fun x hx => ?_⟩
  · rcases h.own.2 with ⟨e, _⟩ | ⟨g', cap', cur', e, h1, h2, h3, h4, h5, h7⟩
    · cases e
    · cases e
      refine .inr ⟨gA, cA, cur'.setIfInBounds k u, by rw [List.length_set], h1, ?_, by rw [List.length_set]; exact h3, h4, by simpa using h5, ?_⟩
      · simp [World.setCell, Array.getElem?_modify, h2]
      · rw [Array.toList_setIfInBounds, List.take_set, List.length_set, h7]
  · rcases List.mem_or_eq_of_mem_set hx with hx | rfl
    · exact (h.row x hx).move fun b _ _ hb => hfar b hb
    · exact hu.move fun b _ _ hb => hfar b hb
theorem AL.below {w w1 : World} {lo gA cA : Nat} {vs : List Value} (h : AL w lo gA cA vs) (hb : Below w.heap.size w w1) : AL w1 lo gA cA vs :=
  ⟨ownsRow_move h.own fun q e => hb.block q (h.own.lt q e).2, fun u hu => (h.row u hu).move fun b _ hlt _ => hb.block b hlt⟩
theorem mem_sumV {u : Value} : ∀ {vs : List Value}, u ∈ vs → lenV u ≤ sumV vs
  | [], h => by simp at h
  | x :: l, h => by
    have ih := @mem_sumV u l
    simp only [sumV, List.map_cons, List.sum_cons] at ih ⊢
    rcases List.mem_cons.1 h with rfl | h
    · omega
    · have := ih h
      omega
theorem sumV_set {u : Value} : ∀ {vs : List Value} {k : Nat} (hk : k < vs.length), lenV u ≤ lenV vs[k] → sumV (vs.set k u) ≤ sumV vs
  | [], k, h, _ => by simp at h
  | x :: l, 0, h, hl => by
    simp only [sumV, List.set_cons_zero, List.map_cons, List.sum_cons, List.getElem_cons_zero] at hl ⊢
    omega
  | x :: l, k + 1, h, hl => by
    have := sumV_set (vs := l) (k := k) (by simpa using h) (by simpa using hl)
    simp only [sumV, List.set_cons_succ, List.map_cons, List.sum_cons] at this ⊢
    omega
theorem exists_list {α β : Type} (P : α → β → Prop) : ∀ (xs : List α), (∀ x ∈ xs, ∃ y, P x y) → ∃ ys : List β, ys.length = xs.length ∧ ∀ (i : Nat) (h1 : i < xs.length) (h2 : i < ys.length), P xs[i] ys[i]
  | [], _ => ⟨[], rfl, fun i h => by simp at h⟩
  | x :: xs, h => by
    obtain ⟨y, hy⟩ := h x List.mem_cons_self
    obtain ⟨ys, hl, hp⟩ := exists_list P xs fun z hz => h z (List.mem_cons_of_mem _ hz)
    refine ⟨y :: ys, by simp [hl], fun i h1 h2 => ?_⟩
    cases i with
    | zero => exact hy
    | succ i => exact hp i (by simpa using h1) (by simpa using h2)
theorem AL.out {w : World} {lo gA cA : Nat} {vs : List Value} (h : AL w lo gA cA vs) (hp : 0 < vs.length) : ∃ (hd : List UInt8) (tl : List (List UInt8)), Sl kbyte w (lo ≤ ·) (vs[0]) hd ∧ Sl (kslice kbyte) w (lo ≤ ·) (.slice (some ⟨gA, 1, none⟩) (vs.length - 1) (cA - 1)) tl ∧ hd.length + sumL tl = sumV vs ∧ tl.length = vs.length - 1 := by
  obtain ⟨bss, hl, hb⟩ := exists_list (fun (u : Value) (bs : List UInt8) => lenV u = bs.length ∧ Sl kbyte w (lo ≤ ·) u bs) vs fun u hu => by
    obtain ⟨A, n, c, bs, rfl, hn, hs⟩ := (h.row u hu).sl
    exact ⟨bs, hn.symm, hs.mono fun k hk => hk.1⟩
  obtain ⟨cur, hc, hsz, h1, h2, h3, h4⟩ := h.blk
  have hs : Sl (kslice kbyte) w (lo ≤ ·) (.slice (some ⟨gA, 0, none⟩) vs.length cA) bss := by
    refine ⟨_, cA, by rw [hl], by omega, h2, fun _ => ⟨gA, 0, rfl, h3, blk_lt hc, fun i x hx => ?_⟩⟩
    obtain ⟨hi, rfl⟩ := List.getElem?_eq_some_iff.1 hx
    refine ⟨[vs[i]'(by omega)], ⟨_, rfl, (hb i (by omega) hi).2⟩, fun j u hj => ?_⟩
    cases j with
    | zero =>
      cases hj
      have := h4 i _ (List.getElem?_eq_getElem (by omega))
      simpa [kslice] using this
    | succ j => simp at hj
  have hsum : sumL bss = sumV vs := by
    have e : bss.map List.length = vs.map lenV := by
      refine List.ext_getElem (by simp [hl]) fun i h1 h2 => ?_
      rw [List.length_map] at h1 h2
      rw [List.getElem_map, List.getElem_map, (hb i h2 h1).1]
    unfold sumL sumV
    rw [e]
  have hd := Sl.drop (i := 1) hs (by omega)
  have hb0 : 0 < bss.length := by omega
  refine ⟨bss[0], bss.drop 1, (hb 0 hp hb0).2, by simpa [kslice, hl] using hd, ?_, by rw [List.length_drop, hl]⟩
  rw [← hsum]
  have e : bss = bss[0] :: bss.drop 1 := by
    have := List.drop_eq_getElem_cons hb0
    simpa using this
  conv => rhs; rw [e]
  simp [sumL]
theorem vI_len {d : Int} (h0 : 0 ≤ d) (h1 : d < 9223372036854775808) : (vI d).length ≤ 9 := by
  have h9 : (128 : Nat) ^ 9 = 9223372036854775808 := by decide
  have hv := vread_vform (x := d.toNat) (by omega) []
  exact (vread_le hv).2.2
theorem rowD_len : ∀ (c : List Int), (∀ d ∈ c, 0 ≤ d ∧ d < 9223372036854775808) → (rowD c).length ≤ 9 * c.length
  | [], _ => by simp [rowD]
  | d :: c, h => by
    have h1 := vI_len (h d List.mem_cons_self).1 (h d List.mem_cons_self).2
    have h2 := rowD_len c fun x hx => h x (List.mem_cons_of_mem _ hx)
    simp only [rowD, List.flatMap_cons, List.length_append, List.length_cons] at h2 ⊢
    omega
theorem dataD_sum (ds : List Int) (h : ∀ d ∈ ds, 0 ≤ d ∧ d < 9223372036854775808) : ∀ k, sumL ((List.range k).map fun j => rowD (chD ds j)) ≤ 9 * (ds.take (200 * k)).length
  | 0 => by simp [sumL]
  | k + 1 => by
    have ih := dataD_sum ds h k
    have h1 := rowD_len (chD ds k) fun d hd => h d (List.mem_of_mem_drop (List.mem_of_mem_take hd))
    rw [List.range_succ, List.map_append]
    rw [show 200 * (k + 1) = 200 * k + 200 by omega, List.take_add, List.length_append]
    simp only [sumL, List.map_append, List.sum_append, List.map_cons, List.map_nil, List.sum_cons, List.sum_nil] at ih ⊢
    have e : (chD ds k).length = ((ds.drop (200 * k)).take 200).length := rfl
    rw [e] at h1
    omega
theorem sumL_bound : ∀ (data : List (List UInt8)), (∀ b ∈ data, b.length ≤ 4096) → sumL data ≤ 4096 * data.length
  | [], _ => by simp [sumL]
  | b :: l, h => by
    have ih := sumL_bound l fun x hx => h x (List.mem_cons_of_mem _ hx)
    have := h b List.mem_cons_self
    simp only [sumL, List.map_cons, List.sum_cons, List.length_cons] at ih ⊢
    omega
theorem sumL_bound5 : ∀ (data : List (List UInt8)), (∀ b ∈ data, b.length ≤ 5000) → sumL data ≤ 5000 * data.length
  | [], _ => by simp [sumL]
  | b :: l, h => by
    have ih := sumL_bound5 l fun x hx => h x (List.mem_cons_of_mem _ hx)
    have := h b List.mem_cons_self
    simp only [sumL, List.map_cons, List.sum_cons, List.length_cons] at ih ⊢
    omega
end Go.Proofs.YtjncnppbaldmiaaGreatDoor
