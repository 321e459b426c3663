/- A manifest as an argument, opened. No condition. -/
import Derived.Test.YtgbladpoglhleaaGreatDoorMa
import Derived.ProofKit
import Derived.Deep.Slices
import Derived.Lib.SmallJoins
import Derived.OpenShut
namespace Go.Proofs.YtgbladpoglhleaaGreatDoor
open Go.RowKit Go.Deep Go.ChangeShapes Go.WideShapes Go.Joins
set_option maxRecDepth 100000
variable {H : Type} {enc : TypeId × Value → H}
theorem open_sl {α : Type} {K : Kind α} {P : Program} {W : World} {spare : Nat → Bool} {held : Bool} {fuel : Nat} {t e : TypeId} {v : Value} {y : DataW H × List MemPlace} (ht : P.underlying t = some (.slice e)) (hsz : P.cellsOf e = K.sz) (h0 : 0 < K.sz)
    (hK : ∀ (n : Nat) (cs : List Value) (z : DataW H × List MemPlace), DataW.trod enc P W 0 spare held n e cs = some z → cs.length = K.sz → ∃ x, K.R W (fun _ => True) x cs)
    (h : DataW.trod enc P W 0 spare held fuel t [v] = some y) : ∃ xs, Sl K W (fun _ => True) v xs := by
  rcases open_slice ht h with ⟨hcs, _⟩ | ⟨a, len, cap, m, n, D, Pl, hcs, _, hl, hm, hmm, _, hx⟩
  · cases hcs
    exact ⟨[], Sl.nil K W _⟩
  · cases hcs
    have hlm : len ≤ m := by rw [hmm]; split <;> omega
    rw [hsz] at hx
    have each : ∀ i, i < len → ∃ x cs, K.R W (fun _ => True) x cs ∧ cs.length = K.sz ∧ ∀ j, j < K.sz → W.cell? ((a.add (i * K.sz)).add j) = cs[j]? := fun i hi => by
      obtain ⟨cs, h1, h2⟩ := hx i (by omega)
      obtain ⟨_, hlen, hcell⟩ := World.cells?_some h1
      obtain ⟨x, hx⟩ := hK n cs _ h2 hlen
      exact ⟨x, cs, hx, hlen, hcell⟩
    have hm' : cap ≤ 9223372036854775807 := by simpa only [maxLen] using hm
    cases len with
    | zero => exact ⟨[], some a, cap, rfl, Nat.zero_le _, hm', fun q => absurd q (Nat.lt_irrefl 0)⟩
    | succ k =>
      obtain ⟨x0, cs0, _, hl0, hc0⟩ := each 0 (by omega)
      have hcell0 : W.cell? (a.add 0) = some (cs0[0]'(by omega)) := by
        have := hc0 0 h0
        rw [Go.Deep.add_add, Nat.zero_mul] at this
        rw [this, List.getElem?_eq_getElem (by omega)]
      obtain ⟨b, o, sp⟩ := a
      have hsp : sp = none := by
        have := World.cell?_spot hcell0
        simpa [Addr.add] using this
      subst hsp
      have hb : b < W.heap.size := by
        have := World.block_lt_of_cell? W _ hcell0
        simpa [Addr.add] using this
      have hex : ∃ f : Fin (k + 1) → α, ∀ i : Fin (k + 1), ∃ cs, K.R W (fun _ => True) (f i) cs ∧ cs.length = K.sz ∧ ∀ j, j < K.sz → W.cell? (((⟨b, o, none⟩ : Addr).add (i.1 * K.sz)).add j) = cs[j]? :=
        ⟨fun i => Classical.choose (each i.1 i.2), fun i => Classical.choose_spec (each i.1 i.2)⟩
      obtain ⟨f, hf⟩ := hex
      refine ⟨List.ofFn f, some ⟨b, o, none⟩, cap, by simp, by simpa using hl, hm', fun _ => ⟨b, o, rfl, trivial, hb, fun i x hx => ?_⟩⟩
      have hi : i < k + 1 := by simpa using (List.getElem?_eq_some_iff.1 hx).1
      obtain ⟨cs, c1, c2, c3⟩ := hf ⟨i, hi⟩
      rw [List.getElem?_ofFn, dif_pos hi, Option.some.injEq] at hx
      subst hx
      refine ⟨cs, c1, fun j u hu => ?_⟩
      have hj := (List.getElem?_eq_some_iff.1 hu).1
      have := c3 j (by omega)
      rw [Go.Deep.add_add, addr_add] at this
      rw [Nat.add_assoc, this, hu]
variable {W : World} {spare : Nat → Bool} {held : Bool}
theorem el_int {n : Nat} {cs : List Value} {z : DataW H × List MemPlace} (h : DataW.trod enc Tryz.prog W 0 spare held n 3 cs = some z) : ∃ x, kint.R W (fun _ => True) x cs := by
  obtain ⟨x, rfl, _⟩ := DataW.trod_int Tryz.underlying3 h
  exact ⟨x, rfl⟩
theorem Tryz.cells54 : Tryz.prog.cellsOf 54 = 3 := by kernel_rfl
theorem Tryz.cells33 : Tryz.prog.cellsOf 33 = 5 := by kernel_rfl
theorem Tryz.cells30 : Tryz.prog.cellsOf 30 = 1 := by kernel_rfl
theorem Tryz.cells31 : Tryz.prog.cellsOf 31 = 1 := by kernel_rfl
theorem Tryz.cells3 : Tryz.prog.cellsOf 3 = 1 := by kernel_rfl
theorem Tryz.cells52 : Tryz.prog.cellsOf 52 = 1 := by kernel_rfl
theorem trod_struct3' {P : Program} {base fuel : Nat} {t : TypeId} {f0 f1 f2 : Field} {cs : List Value} {x : DataW H × List MemPlace} (ht : P.underlying t = some (.struct #[f0, f1, f2])) (h : DataW.trod enc P W base spare held fuel t cs = some x) :
    ∃ y0 y1 y2 n, DataW.trod enc P W base spare held n f0.type ((cs.drop f0.offset).take (P.cellsOf f0.type)) = some y0 ∧
      DataW.trod enc P W base spare held n f1.type ((cs.drop f1.offset).take (P.cellsOf f1.type)) = some y1 ∧ DataW.trod enc P W base spare held n f2.type ((cs.drop f2.offset).take (P.cellsOf f2.type)) = some y2 := by
  obtain ⟨xs, n, _, rfl, hl, hlen, hf⟩ := DataW.trod_struct ht h
  match xs, hlen with
  | [y0, y1, y2], _ => exact ⟨y0, y1, y2, n, by simpa using hf 0 f0 rfl, by simpa using hf 1 f1 rfl, by simpa using hf 2 f2 rfl⟩
theorem trod_struct5' {P : Program} {base fuel : Nat} {t : TypeId} {f0 f1 f2 f3 f4 : Field} {cs : List Value} {x : DataW H × List MemPlace} (ht : P.underlying t = some (.struct #[f0, f1, f2, f3, f4])) (h : DataW.trod enc P W base spare held fuel t cs = some x) :
    ∃ y0 y1 y2 y3 y4 n, DataW.trod enc P W base spare held n f0.type ((cs.drop f0.offset).take (P.cellsOf f0.type)) = some y0 ∧
      DataW.trod enc P W base spare held n f1.type ((cs.drop f1.offset).take (P.cellsOf f1.type)) = some y1 ∧ DataW.trod enc P W base spare held n f2.type ((cs.drop f2.offset).take (P.cellsOf f2.type)) = some y2 ∧
      DataW.trod enc P W base spare held n f3.type ((cs.drop f3.offset).take (P.cellsOf f3.type)) = some y3 ∧ DataW.trod enc P W base spare held n f4.type ((cs.drop f4.offset).take (P.cellsOf f4.type)) = some y4 := by
  obtain ⟨xs, n, _, rfl, hl, hlen, hf⟩ := DataW.trod_struct ht h
  match xs, hlen with
  | [y0, y1, y2, y3, y4], _ => exact ⟨y0, y1, y2, y3, y4, n, by simpa using hf 0 f0 rfl, by simpa using hf 1 f1 rfl, by simpa using hf 2 f2 rfl, by simpa using hf 3 f3 rfl, by simpa using hf 4 f4 rfl⟩
theorem el_info {n : Nat} {cs : List Value} {z : DataW H × List MemPlace} (h : DataW.trod enc Tryz.prog W 0 spare held n 54 cs = some z) (hl : cs.length = 3) : ∃ x, kinfo.R W (fun _ => True) x cs := by
  obtain ⟨y0, y1, y2, m, h0, h1, h2⟩ := trod_struct3' Tryz.underlying54 h
  match cs, hl with
  | [c0, c1, c2], _ =>
    simp only [Tryz.cells3, Tryz.cells52, List.drop_zero, List.drop_succ_cons, List.take_succ_cons, List.take_zero] at h0 h1 h2
    obtain ⟨a, e0, _⟩ := DataW.trod_int Tryz.underlying3 h0
    obtain ⟨b, e1, _, hw⟩ := DataW.trod_int Tryz.underlying52 h1
    obtain ⟨c, e2, _⟩ := DataW.trod_int Tryz.underlying3 h2
    cases e0
    cases e1
    cases e2
    have hb := bounds_u32 hw
    refine ⟨⟨a, UInt32.ofNat b.toNat, c⟩, ?_⟩
    show [Value.int .i64 a, Value.int .u32 b, Value.int .i64 c] = [Value.int .i64 a, Value.int .u32 ((UInt32.ofNat b.toNat).toNat : Int), Value.int .i64 c]
    have : ((UInt32.ofNat b.toNat).toNat : Int) = b := by
      rw [UInt32.toNat_ofNat']
      omega
    rw [this]
theorem arg_man {r : Reach} {b0 : Nat} {v : Value} {d : DataW H} {p : List MemPlace} (hv : Value.okWide Tryz.prog W r b0 33 v) (h : DataW.Trod enc Tryz.prog W 0 spare held 33 v d p) :
    ∃ m, ManV W (fun _ => True) v m ∧ (Lit.int .i64 m.Gen).wf = true ∧ (Lit.int .i64 m.N).wf = true := by
  obtain ⟨cs, rfl, hsz⟩ := okWide_struct Tryz.underlying33 hv
  rw [Tryz.cells33] at hsz
  obtain ⟨fuel, hf⟩ := h
  obtain ⟨y0, y1, y2, y3, y4, n, h0, h1, h2, h3, h4⟩ := trod_struct5' Tryz.underlying33 hf
  have hcs : (Value.agg cs).cells.toList = cs.toList := rfl
  obtain ⟨l⟩ := cs
  match l, hsz with
  | [c0, c1, c2, c3, c4], _ =>
    simp only [hcs, Tryz.cells3, Tryz.cells30, Tryz.cells31, List.drop_zero, List.drop_succ_cons, List.take_succ_cons, List.take_zero] at h0 h1 h2 h3 h4
    obtain ⟨a, e0, _, w0⟩ := DataW.trod_int Tryz.underlying3 h0
    obtain ⟨b, e1, _, w1⟩ := DataW.trod_int Tryz.underlying3 h1
    cases e0
    cases e1
    obtain ⟨xs, hx⟩ := open_sl (K := kint) Tryz.underlying30 Tryz.cells3 (by decide) (fun _ _ _ h _ => el_int h) h2
    obtain ⟨ys, hy⟩ := open_sl (K := kinfo) Tryz.underlying31 Tryz.cells54 (by decide) (fun _ _ _ h hl => el_info h hl) h3
    obtain ⟨zs, hz⟩ := open_sl (K := kint) Tryz.underlying30 Tryz.cells3 (by decide) (fun _ _ _ h _ => el_int h) h4
    exact ⟨⟨a, b, xs, ys, zs⟩, ⟨_, _, _, rfl, hx, hy, hz⟩, w0, w1⟩
end Go.Proofs.YtgbladpoglhleaaGreatDoor
