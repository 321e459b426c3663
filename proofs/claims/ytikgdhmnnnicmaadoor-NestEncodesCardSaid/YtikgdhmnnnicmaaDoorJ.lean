/- nest.Forest's rounds over the levels: what is held between two of them. No condition. -/
import Derived.Test.YtikgdhmnnnicmaaDoorW
namespace Go.Proofs.YtikgdhmnnnicmaaDoor
open Go.RowKit
theorem ownsRow_cells {w : World} {B s n q : Nat} {e : TypeId} {v : Value} {xs : List Value} (h : w.ownsRow B e s v n xs) (hq : v.ownBlock = some q) : ∃ c, w.heap[q]? = some (.cells c e (0, 0)) := by
  rcases h.2 with ⟨rfl, _⟩ | ⟨g, cap, cur, rfl, _, hg, _⟩
  · cases hq
  · cases hq; exact ⟨cur, hg⟩
theorem FSt.foot_cells {p : At} {n : Nat} {w : World} {S : UF} {rows : List Value} (h : FSt p n w S rows) {q : Nat} (hq : foot p rows q) : ∃ c t, w.heap[q]? = some (.cells c t (0, 0)) := by
  rcases hq with rfl | rfl | rfl | rfl | ⟨j, u, hj, hu⟩
  · exact ⟨_, _, h.u⟩
  · exact ⟨_, _, h.l⟩
  · exact ⟨_, _, h.s⟩
  · exact ⟨_, _, h.rows.blk⟩
  · obtain ⟨c, hc⟩ := ownsRow_cells (h.rows.own j u _ hj (List.getElem?_eq_getElem (by rw [← h.rows.len]; exact (List.getElem?_eq_some_iff.1 hj).1))) hu
    exact ⟨c, _, hc⟩
structure RSt (p : At) (n : Nat) (W0 : World) (lo hi ox xb : Nat) (W : World) (S : UF) (out : List Node) (rows : List Value) (ov : Value) : Prop where
  st : FSt p n W S rows
  ft : ∀ q, foot p rows q → W0.heap.size ≤ q ∧ q ≠ ox ∧ (q < lo ∨ hi ≤ q)
  below : Below W0.heap.size W0 W
  hiW : hi ≤ W.heap.size
  own : W.ownsRow p.B 27 4 ov out.length (nodeCells out)
  ovn : ∀ q, ov.ownBlock = some q → hi ≤ q ∧ ¬ foot p rows q
  box : W.heap[ox]? = some (.cells #[ov] 22 (0, 0))
  le : out.length ≤ 16777216
  fx : W.heap[xb]? = some (.cells #[.pointer (some ⟨p.fb, 0, none⟩)] 66 (0, 0))
  nx : ∀ q, foot p rows q → q ≠ xb
def RInv (p : At) (n K : Nat) (adj : List (List Int)) (cs : List Int) (W0 : World) (lo hi ox xb : Nat) (fin : UF × List Node) (ls : List Int) (k : Nat) (W : World) : Prop :=
  ∃ S out rows ov, levelsF K adj cs (S, out) (ls.drop k) = some fin ∧ RSt p n W0 lo hi ox xb W S out rows ov
theorem RInv.own {p : At} {n K : Nat} {adj : List (List Int)} {cs : List Int} {W0 : World} {lo hi ox xb : Nat} {fin : UF × List Node} {ls : List Int} (hB : p.B ≤ hi) (hox : ox < hi) (hxb : xb < hi) (h0 : W0.heap.size ≤ hi) : OwnFrom hi (RInv p n K adj cs W0 lo hi ox xb fin ls) := by
  rintro k W W' row ⟨S, out, rows, ov, hr, h⟩ hg hrow
  have hc : ∀ q (o : Obj), W.heap[q]? = some o → o.isCells = true → W'.heap[q]? = W.heap[q]? := fun q o hq ho => hg.block q (blk_lt hq) fun e => by
    obtain ⟨_, o', h1, h2⟩ := hrow q e.symm
    rw [hq] at h1
    cases h1
    rw [ho] at h2
    cases h2
  have hl : ∀ q, q < hi → W'.heap[q]? = W.heap[q]? := fun q hq => hg.block q (Nat.lt_of_lt_of_le hq h.hiW) fun e => by have := (hrow q e.symm).1; omega
  refine ⟨S, out, rows, ov, hr, ⟨h.st.kept2 (fun q hq => hl q (by omega)) (fun q hq => ?_), h.ft, ⟨hg.os.trans h.below.os, hg.tape.trans h.below.tape, hg.output.trans h.below.output, Nat.le_trans h.below.size hg.size, fun q hq => (hl q (by omega)).trans (h.below.block q hq)⟩,
    Nat.le_trans h.hiW hg.size, ownsRow_move h.own fun q e => ?_, h.ovn, (hl ox hox).trans h.box, h.le, (hl xb hxb).trans h.fx, h.nx⟩⟩
  · obtain ⟨c, t, hq2⟩ := h.st.foot_cells hq
    exact hc q _ hq2 rfl
  · obtain ⟨c, hq2⟩ := ownsRow_cells h.own e
    exact hc q _ hq2 rfl
/-- Behind one level, out being stored. -/
theorem RSt.next {p : At} {n : Nat} {W0 W w1 : World} {lo hi ox xb : Nat} {S S' : UF} {out out' : List Node} {rows : List Value} {ov : Value} {e : Ending} (h : RSt p n W0 lo hi ox xb W S out rows ov) (hlo : lo ≤ hi) (hox : ox < lo) (hxb : xb < lo) (hxo : xb ≠ ox) (hox0 : p.B ≤ ox) (h0 : W0.heap.size ≤ ox)
    (hp : LevelPost p n W rows ov S' out' e w1) (hle : out'.length ≤ 16777216) :
    ∃ rows' ov', e = .returned ov' ∧ (∃ A c, ov' = .slice A out'.length c) ∧ w1.heap[ox]? = some (.cells #[ov] 22 (0, 0)) ∧ RSt p n W0 lo hi ox xb (w1.setCell ⟨ox, 0, none⟩ ov') S' out' rows' ov' ∧
      KeepsFrom hi W (w1.setCell ⟨ox, 0, none⟩ ov') ∧ (∀ q, lo ≤ q ∧ q < hi → (w1.setCell ⟨ox, 0, none⟩ ov').heap[q]? = W.heap[q]?) := by
  obtain ⟨rows', ov', rfl, hF, hO, hR, hown, hno, hold⟩ := hp
  have hbox : w1.heap[ox]? = some (.cells #[ov] 22 (0, 0)) := (hO.block ox (blk_lt h.box) fun hf => hf.elim (fun hf => (h.ft ox hf).2.1 rfl) fun e => by have := (h.ovn ox e).1; omega).trans h.box
  have hset : ∀ q, q ≠ ox → (w1.setCell ⟨ox, 0, none⟩ ov').heap[q]? = w1.heap[q]? := fun q hq => Below.heap_setCell _ _ _ _ hq
  have hsz : (w1.setCell ⟨ox, 0, none⟩ ov').heap.size = w1.heap.size := by simp
  have hft : ∀ q, foot p rows' q → W0.heap.size ≤ q ∧ q ≠ ox ∧ (q < lo ∨ hi ≤ q) := fun q hq => by
    rcases hq with hq | hq | hq | hq | ⟨j, u, hj, hu⟩
    · exact h.ft q (.inl hq)
    · exact h.ft q (.inr (.inl hq))
    · exact h.ft q (.inr (.inr (.inl hq)))
    · exact h.ft q (.inr (.inr (.inr (.inl hq))))
    · rcases hR j u q hj hu with h1 | h1
      · exact h.ft q (.inr (.inr (.inr (.inr h1))))
      · have := h.hiW
        exact ⟨by omega, by omega, .inr (by omega)⟩
  have hovn : ∀ q, ov'.ownBlock = some q → hi ≤ q ∧ ¬ foot p rows' q := fun q hq => ⟨by
    rcases hold q hq with h1 | h1
    · exact (h.ovn q h1).1
    · have := h.hiW; omega, hno q hq⟩
  have hlow : ∀ q, q < W.heap.size → ¬ foot p rows q → ov.ownBlock ≠ some q → w1.heap[q]? = W.heap[q]? := fun q hq h1 h2 => hO.block q hq fun hf => hf.elim h1 h2
  have hwlt := blk_lt h.box
  refine ⟨rows', ov', rfl, ?_, hbox, ⟨hF.kept2 (fun q hq => hset q (by omega)) (fun q hq => hset q (hft q hq).2.1), hft, ⟨hO.os.trans h.below.os, hO.tape.trans h.below.tape, hO.output.trans h.below.output, by have := h.below.size; have := hO.size; omega, fun q hq => ?_⟩, by have := h.hiW; have := hO.size; omega,
    ownsRow_move hown fun q e => hset q (by have := (hovn q e).1; omega), hovn, ?_, hle, (hset xb hxo).trans ((hlow xb (blk_lt h.fx) (fun hf => h.nx xb hf rfl) fun e => by have := (h.ovn xb e).1; omega).trans h.fx), fun q hq => ?_⟩, ⟨by have := hO.size; omega, fun q o hq ho hc => ?_⟩, fun q hq => ?_⟩
  · rcases hown.2 with ⟨rfl, h2⟩ | ⟨g, cap, cur, rfl, _⟩
    · exact ⟨none, 0, by rw [h2]⟩
    · exact ⟨_, _, rfl⟩
  · refine (hset q (by omega)).trans ((hlow q (by have := h.below.size; omega) (fun hf => by have := (h.ft q hf).1; omega) fun e => by have := (h.ovn q e).1; omega).trans (h.below.block q hq))
  · have := heap_setCell_same w1 ox 0 #[ov] 22 ov' hbox
    simpa using this
  · rcases hq with hq | hq | hq | hq | ⟨j, u, hj, hu⟩
    · exact h.nx q (.inl hq)
    · exact h.nx q (.inr (.inl hq))
    · exact h.nx q (.inr (.inr (.inl hq)))
    · exact h.nx q (.inr (.inr (.inr (.inl hq))))
    · rcases hR j u q hj hu with h1 | h1
      · exact h.nx q (.inr (.inr (.inr (.inr h1))))
      · have := h.hiW
        omega
  · refine (hset q (by omega)).trans ((hlow q (blk_lt ho) (fun hf => ?_) fun e => ?_).trans ho)
    · obtain ⟨c, t, h2⟩ := h.st.foot_cells hf
      rw [ho] at h2; cases h2; cases hc
    · obtain ⟨c, h2⟩ := ownsRow_cells h.own e
      rw [ho] at h2; cases h2; cases hc
  · exact (hset q (by omega)).trans (hlow q (by have := h.hiW; omega) (fun hf => by have := (h.ft q hf).2.2; omega) fun e => by have := (h.ovn q e).1; omega)
end Go.Proofs.YtikgdhmnnnicmaaDoor
