/- Lists of bytes' lists that a call has made; what Encode's row says; parts of a slice. No condition. -/
import Derived.Test.YtikgdhmnnnicmaaDoorCh
import Derived.Sort.LoopGhostIn
import Derived.Sort.CutIn
import Derived.Maps.OwnIn
namespace Go.Proofs.YtikgdhmnnnicmaaDoor
open Go.RowKit
theorem Tryd.infoBytes : (Tryd.prog.info? 28).map (fun i => (i.zero, i.size, i.bytes)) = some (some (.slice none 0 0), 1, 24) := by kernel_rfl
theorem own_u8s {w : World} {B : Nat} {v : Value} {xs : List UInt8} (h : w.ownsRow B 5 1 v xs.length (u8s xs)) : Own kbyte 5 w B v xs := by
  refine ⟨_, h, fun i x hx => ?_⟩
  show _ = _
  obtain ⟨hl, he⟩ := List.getElem?_eq_some_iff.1 hx
  have e : (u8s xs).drop (i * kbyte.sz) = (u8s xs).drop i := by show (u8s xs).drop (i * 1) = _; rw [Nat.mul_one]
  rw [e]
  show ((u8s xs).drop i).take 1 = _
  rw [List.drop_eq_getElem_cons (by rw [u8s_length]; exact hl)]
  simp [u8s, he]
/-- A list of bytes' lists, all of it the call's own, from block lo on. -/
structure BL (w : World) (lo : Nat) (dv : Value) (vs : List Value) (bss : List (List UInt8)) : Prop where
  own : w.ownsRow lo 28 1 dv bss.length vs
  row : ∀ (i : Nat) (v : Value) (bs : List UInt8), vs[i]? = some v → bss[i]? = some bs → w.ownsRow lo 5 1 v bs.length (u8s bs)
  ne : ∀ (i : Nat) (v : Value) (q : Nat), vs[i]? = some v → v.ownBlock = some q → dv.ownBlock ≠ some q
theorem BL.len {w : World} {lo : Nat} {dv : Value} {vs : List Value} {bss : List (List UInt8)} (h : BL w lo dv vs bss) : vs.length = bss.length := by
  have := h.own.1
  omega
theorem BL.nil (w : World) (lo : Nat) : BL w lo (.slice none 0 0) [] [] := ⟨World.ownsRow_nil _ _ _ _, by simp, by simp⟩
theorem BL.move {w w1 : World} {lo : Nat} {dv : Value} {vs : List Value} {bss : List (List UInt8)} (h : BL w lo dv vs bss)
    (hm : ∀ q c t, lo ≤ q → w.heap[q]? = some (.cells c t (0, 0)) → (dv.ownBlock = some q ∨ ∃ (i : Nat) (v : Value), vs[i]? = some v ∧ v.ownBlock = some q) → w1.heap[q]? = w.heap[q]?) : BL w1 lo dv vs bss := by
  have hlen := h.len
  refine ⟨ownsRow_move h.own fun q e => ?_, fun i v bs hv hb => ownsRow_move (h.row i v bs hv hb) fun q e => ?_, h.ne⟩
  · obtain ⟨c, hq⟩ := ownsRow_cells h.own e
    exact hm q c _ (h.own.lt q e).1 hq (.inl e)
  · obtain ⟨c, hq⟩ := ownsRow_cells (h.row i v bs hv hb) e
    exact hm q c _ ((h.row i v bs hv hb).lt q e).1 hq (.inr ⟨i, v, hv, e⟩)
theorem BL.grown {w w1 : World} {lo : Nat} {dv : Value} {vs : List Value} {bss : List (List UInt8)} {row : Option Nat} (h : BL w lo dv vs bss) (hg : w.grownBy w1 row)
    (hr : ∀ q, row = some q → dv.ownBlock ≠ some q ∧ ∀ (i : Nat) (v : Value), vs[i]? = some v → v.ownBlock ≠ some q) : BL w1 lo dv vs bss :=
  h.move fun q c t _ hq hf => hg.block q (blk_lt hq) fun e => by
    rcases hf with hf | ⟨i, v, hv, hf⟩
    · exact (hr q e.symm).1 hf
    · exact (hr q e.symm).2 i v hv hf
theorem BL.below {w w1 : World} {lo : Nat} {dv : Value} {vs : List Value} {bss : List (List UInt8)} (h : BL w lo dv vs bss) (hb : Below w.heap.size w w1) : BL w1 lo dv vs bss :=
  h.move fun q _ _ _ hq _ => hb.block q (blk_lt hq)
theorem BL.low {w : World} {lo lo1 : Nat} {dv : Value} {vs : List Value} {bss : List (List UInt8)} (h : BL w lo dv vs bss) (hl : lo1 ≤ lo) : BL w lo1 dv vs bss :=
  ⟨h.own.mono hl, fun i v bs hv hb => (h.row i v bs hv hb).mono hl, h.ne⟩
/-- One list more, behind the others. -/
theorem BL.snoc {w w1 : World} {lo : Nat} {dv dv1 v : Value} {vs : List Value} {bss : List (List UInt8)} {bs : List UInt8} (h : BL w lo dv vs bss) (hv : w.ownsRow lo 5 1 v bs.length (u8s bs)) (hne : ∀ q, v.ownBlock = some q → dv.ownBlock ≠ some q)
    (ho : w1.ownsRow lo 28 1 dv1 (bss.length + 1) (vs ++ [v])) (hg : w.grownBy w1 dv.ownBlock) (hm : Moved w dv dv1) : BL w1 lo dv1 (vs ++ [v]) (bss ++ [bs]) := by
  have hlen := h.len
  have hkeep : ∀ (u : Value) (ys : List UInt8), w.ownsRow lo 5 1 u ys.length (u8s ys) → (∀ q, u.ownBlock = some q → dv.ownBlock ≠ some q) → w1.ownsRow lo 5 1 u ys.length (u8s ys) := fun u ys hu hn =>
    ownsRow_move hu fun q e => hg.block q (hu.lt q e).2 fun e' => hn q e e'.symm
  have hnew : ∀ (u : Value) (ys : List UInt8), w.ownsRow lo 5 1 u ys.length (u8s ys) → (∀ q, u.ownBlock = some q → dv.ownBlock ≠ some q) → ∀ q, u.ownBlock = some q → dv1.ownBlock ≠ some q := fun u ys hu hn q e => by
    rcases hm with hm | ⟨k, hm, hk⟩
    · rw [hm]; exact hn q e
    · rw [hm]; intro e2; have := (hu.lt q e).2; have := Option.some.inj e2; omega
  refine ⟨by rw [List.length_append]; exact ho, fun i u ys hu hy => ?_, fun i u q hu e => ?_⟩
  · rcases Nat.lt_or_ge i vs.length with hi | hi
    · rw [List.getElem?_append_left hi] at hu
      rw [List.getElem?_append_left (by omega)] at hy
      exact hkeep u ys (h.row i u ys hu hy) fun q e => h.ne i u q hu e
    · have hi' : i < (vs ++ [v]).length := (List.getElem?_eq_some_iff.1 hu).1
      rw [List.length_append, List.length_singleton] at hi'
      have hie : i = vs.length := by omega
      subst hie
      rw [List.getElem?_append_right (Nat.le_refl _)] at hu
      rw [List.getElem?_append_right (by omega), hlen] at hy
      simp at hu hy
      subst hu
      subst hy
      exact hkeep _ _ hv hne
  · rcases Nat.lt_or_ge i vs.length with hi | hi
    · rw [List.getElem?_append_left hi] at hu
      have hb : bss[i]? = some bss[i] := List.getElem?_eq_getElem (by omega)
      exact hnew u _ (h.row i u _ hu hb) (fun q e => h.ne i u q hu e) q e
    · have hi' : i < (vs ++ [v]).length := (List.getElem?_eq_some_iff.1 hu).1
      rw [List.length_append, List.length_singleton] at hi'
      have hie : i = vs.length := by omega
      subst hie
      rw [List.getElem?_append_right (Nat.le_refl _)] at hu
      simp at hu
      subst hu
      exact hnew _ _ hv hne q e
theorem row_bytes {w : World} {lo : Nat} {v : Value} {bs : List UInt8} (h : w.ownsRow lo 5 1 v bs.length (u8s bs)) : Sl kbyte w (fun q => lo ≤ q ∧ v.ownBlock = some q) v bs := by
  obtain ⟨A, c, rfl, h1, h2, h3⟩ := (own_u8s h).sl
  refine ⟨A, c, rfl, h1, h2, fun h0 => ?_⟩
  obtain ⟨b, o, rfl, hb, hl, hx⟩ := h3 h0
  exact ⟨b, o, rfl, ⟨hb, rfl⟩, hl, fun i x hx' => by
    obtain ⟨cs, hr, hc⟩ := hx i x hx'
    exact ⟨cs, hr, hc⟩⟩
theorem BL.sl {w : World} {lo : Nat} {dv : Value} {vs : List Value} {bss : List (List UInt8)} (h : BL w lo dv vs bss) : Sl (kslice kbyte) w (lo ≤ ·) dv bss := by
  have hlen := h.len
  refine Own.sl (e := 28) ⟨vs, h.own, fun i bs hb => ?_⟩
  obtain ⟨hl, he⟩ := List.getElem?_eq_some_iff.1 hb
  have e : vs.drop (i * (kslice kbyte).sz) = vs.drop i := by show vs.drop (i * 1) = _; rw [Nat.mul_one]
  rw [e]
  have hi : i < vs.length := by omega
  have hv : vs[i]? = some vs[i] := List.getElem?_eq_getElem hi
  refine ⟨vs[i], ?_, ?_⟩
  · show (vs.drop i).take 1 = _
    rw [List.drop_eq_getElem_cons hi]
    rfl
  · have hr := h.row i vs[i] bs hv hb
    refine (row_bytes hr).mono fun q hq => ⟨hq.1, fun e => h.ne i vs[i] q hv hq.2 e.symm⟩
/-- A part of a slice. -/
theorem Sl.part {α : Type} {K : Kind α} {w : World} {ok : Nat → Prop} {b o n c i m : Nat} {xs : List α} (h : Sl K w ok (.slice (some ⟨b, o, none⟩) n c) xs) (hm : i + m ≤ xs.length) : Sl K w ok (.slice (some ⟨b, o + i * K.sz, none⟩) m m) ((xs.drop i).take m) := by
  obtain ⟨A, c', e, h1, h2, h3⟩ := h
  cases e
  have hml : ((xs.drop i).take m).length = m := by simp; omega
  refine ⟨_, m, by rw [hml], by omega, by omega, fun h0 => ?_⟩
  obtain ⟨b', o', e, hb, hl, hx⟩ := h3 (by omega)
  cases e
  refine ⟨b, o + i * K.sz, rfl, hb, hl, fun j x hj => ?_⟩
  rw [hml] at h0
  have hjm : j < m := by
    have := (List.getElem?_eq_some_iff.1 hj).1
    omega
  rw [List.getElem?_take_of_lt hjm, List.getElem?_drop] at hj
  obtain ⟨cs, hr, hc⟩ := hx (i + j) x hj
  refine ⟨cs, hr, fun k u hk => ?_⟩
  rw [show o + i * K.sz + j * K.sz + k = o + (i + j) * K.sz + k by rw [Nat.add_mul]; omega]
  exact hc k u hk
end Go.Proofs.YtikgdhmnnnicmaaDoor
