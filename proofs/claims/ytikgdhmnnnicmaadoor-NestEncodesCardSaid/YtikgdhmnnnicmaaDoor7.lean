/- The laws' arguments, opened: lists of numbers, of pairs, of nodes, of bytes. No condition. -/
import Derived.Test.YtikgdhmnnnicmaaDoorB
import Derived.ProofKit
import Derived.Deep.Slices
import Derived.Lib.SmallJoins
namespace Go.Proofs.YtikgdhmnnnicmaaDoor
open Go.RowKit Go.Deep Go.ChangeShapes Go.WideShapes Go.Joins
set_option maxRecDepth 100000
variable {H : Type} {enc : TypeId × Value → H}
/-- A slice whose elements read one by one. -/
theorem open_sl {α : Type} {K : Kind α} {P : Program} {W : World} {spare : Nat → Bool} {held : Bool} {fuel : Nat} {t e : TypeId} {v : Value} {y : DataW H × List MemPlace} (ht : P.underlying t = some (.slice e)) (hsz : P.cellsOf e = K.sz) (h0 : 0 < K.sz)
    (hK : ∀ (n : Nat) (cs : List Value) (z : DataW H × List MemPlace), DataW.trod enc P W 0 spare held n e cs = some z → cs.length = K.sz → ∃ x, K.R W (fun _ => True) x cs)
    (h : DataW.trod enc P W 0 spare held fuel t [v] = some y) : ∃ xs, Sl K W (fun _ => True) v xs := by
  rcases open_slice ht h with ⟨hcs, _⟩ | ⟨a, len, cap, m, n, D, Pl, hcs, _, hl, hm, hmm, _, hx⟩
  · cases hcs
    exact ⟨[], Sl.nil K W _⟩
  · cases hcs
    have hlm : len ≤ m := by rw [hmm]; split <;> omega
    rw [hsz] at hx
    have each : ∀ i, i < len → ∃ x cs, K.R W (fun _ => True) x cs ∧ cs.length = K.sz ∧ ∀ j, j < K.sz → W.cell? ((a.add (i * K.sz)).add j) = cs[j]? := fun i hi => by
      obtain ⟨cs, h1, h2⟩ := hx i (by omega)
      obtain ⟨_, hlen, hcell⟩ := World.cells?_some h1
      obtain ⟨x, hx⟩ := hK n cs _ h2 hlen
      exact ⟨x, cs, hx, hlen, hcell⟩
    have hm' : cap ≤ 9223372036854775807 := by simpa only [maxLen] using hm
    cases len with
    | zero => exact ⟨[], some a, cap, rfl, Nat.zero_le _, hm', fun q => absurd q (Nat.lt_irrefl 0)⟩
    | succ k =>
      obtain ⟨x0, cs0, _, hl0, hc0⟩ := each 0 (by omega)
      have hcell0 : W.cell? (a.add 0) = some (cs0[0]'(by omega)) := by
        have := hc0 0 h0
        rw [Go.Deep.add_add, Nat.zero_mul] at this
        rw [this, List.getElem?_eq_getElem (by omega)]
      obtain ⟨b, o, sp⟩ := a
      have hsp : sp = none := by
        have := World.cell?_spot hcell0
        simpa [Addr.add] using this
      subst hsp
      have hb : b < W.heap.size := by
        have := World.block_lt_of_cell? W _ hcell0
        simpa [Addr.add] using this
      have hex : ∃ f : Fin (k + 1) → α, ∀ i : Fin (k + 1), ∃ cs, K.R W (fun _ => True) (f i) cs ∧ cs.length = K.sz ∧ ∀ j, j < K.sz → W.cell? (((⟨b, o, none⟩ : Addr).add (i.1 * K.sz)).add j) = cs[j]? :=
        ⟨fun i => Classical.choose (each i.1 i.2), fun i => Classical.choose_spec (each i.1 i.2)⟩
      obtain ⟨f, hf⟩ := hex
      refine ⟨List.ofFn f, some ⟨b, o, none⟩, cap, by simp, by simpa using hl, hm', fun _ => ⟨b, o, rfl, trivial, hb, fun i x hx => ?_⟩⟩
      have hi : i < k + 1 := by simpa using (List.getElem?_eq_some_iff.1 hx).1
      obtain ⟨cs, c1, c2, c3⟩ := hf ⟨i, hi⟩
      rw [List.getElem?_ofFn, dif_pos hi, Option.some.injEq] at hx
      subst hx
      refine ⟨cs, c1, fun j u hu => ?_⟩
      have hj := (List.getElem?_eq_some_iff.1 hu).1
      have := c3 j (by omega)
      rw [Go.Deep.add_add, addr_add] at this
      rw [Nat.add_assoc, this, hu]
variable {W : World} {spare : Nat → Bool} {held : Bool}
theorem open_list {α : Type} {K : Kind α} {P : Program} {t e : TypeId} {v : Value} {d : DataW H} {p : List MemPlace} (ht : P.underlying t = some (.slice e)) (hsz : P.cellsOf e = K.sz) (h0 : 0 < K.sz)
    (hK : ∀ (n : Nat) (cs : List Value) (z : DataW H × List MemPlace), DataW.trod enc P W 0 spare held n e cs = some z → cs.length = K.sz → ∃ x, K.R W (fun _ => True) x cs)
    {r : Reach} {b0 : Nat} (hv : Value.okWide P W r b0 t v) (h : DataW.Trod enc P W 0 spare held t v d p) : ∃ xs, Sl K W (fun _ => True) v xs := by
  obtain ⟨a, len, cap, rfl⟩ := okWide_slice ht hv
  obtain ⟨fuel, hf⟩ := h
  exact open_sl ht hsz h0 hK hf
theorem el_int {n : Nat} {cs : List Value} {z : DataW H × List MemPlace} (h : DataW.trod enc Tryd.prog W 0 spare held n 3 cs = some z) : ∃ x, kint.R W (fun _ => True) x cs := by
  obtain ⟨x, rfl, _⟩ := DataW.trod_int Tryd.underlying3 h
  exact ⟨x, rfl⟩
theorem el_byte {n : Nat} {cs : List Value} {z : DataW H × List MemPlace} (h : DataW.trod enc Tryd.prog W 0 spare held n 5 cs = some z) : ∃ x, kbyte.R W (fun _ => True) x cs := by
  obtain ⟨x, rfl, _, hw⟩ := DataW.trod_int Tryd.underlying5 h
  have := bounds_u8 hw
  refine ⟨UInt8.ofNat x.toNat, ?_⟩
  show [Value.int .u8 x] = [Value.int .u8 ((UInt8.ofNat x.toNat).toNat : Int)]
  have : ((UInt8.ofNat x.toNat).toNat : Int) = x := by
    rw [UInt8.toNat_ofNat']
    omega
  rw [this]
theorem Tryd.cells27 : Tryd.prog.cellsOf 27 = 4 := by kernel_rfl
theorem Tryd.cells59 : Tryd.prog.cellsOf 59 = 2 := by kernel_rfl
theorem Tryd.cells3 : Tryd.prog.cellsOf 3 = 1 := by kernel_rfl
theorem Tryd.cells5 : Tryd.prog.cellsOf 5 = 1 := by kernel_rfl
theorem Tryd.cells28 : Tryd.prog.cellsOf 28 = 1 := by kernel_rfl
theorem el_pair {n : Nat} {cs : List Value} {z : DataW H × List MemPlace} (h : DataW.trod enc Tryd.prog W 0 spare held n 59 cs = some z) (hl : cs.length = 2) : ∃ x, kpair.R W (fun _ => True) x cs := by
  obtain ⟨y0, y1, m, _, _, h0, h1⟩ := trod_struct2 Tryd.underlying59 h
  match cs, hl with
  | [c0, c1], _ =>
    simp only [Tryd.cells3, List.drop_zero, List.drop_succ_cons, List.take_succ_cons, List.take_zero] at h0 h1
    obtain ⟨a, e0, _⟩ := DataW.trod_int Tryd.underlying3 h0
    obtain ⟨b, e1, _⟩ := DataW.trod_int Tryd.underlying3 h1
    cases e0
    cases e1
    exact ⟨⟨a, b⟩, rfl⟩
theorem el_node {n : Nat} {cs : List Value} {z : DataW H × List MemPlace} (h : DataW.trod enc Tryd.prog W 0 spare held n 27 cs = some z) (hl : cs.length = 4) : ∃ x, knode.R W (fun _ => True) x cs := by
  obtain ⟨y0, y1, y2, y3, m, _, _, h0, h1, h2, h3⟩ := trod_struct4 Tryd.underlying27 h
  match cs, hl with
  | [c0, c1, c2, c3], _ =>
    simp only [Tryd.cells3, List.drop_zero, List.drop_succ_cons, List.take_succ_cons, List.take_zero] at h0 h1 h2 h3
    obtain ⟨a, e0, _⟩ := DataW.trod_int Tryd.underlying3 h0
    obtain ⟨b, e1, _⟩ := DataW.trod_int Tryd.underlying3 h1
    obtain ⟨c, e2, _⟩ := DataW.trod_int Tryd.underlying3 h2
    obtain ⟨d, e3, _⟩ := DataW.trod_int Tryd.underlying3 h3
    cases e0
    cases e1
    cases e2
    cases e3
    exact ⟨⟨a, b, c, d⟩, rfl⟩
theorem arg_ints {r : Reach} {b0 : Nat} {v : Value} {d : DataW H} {p : List MemPlace} (hv : Value.okWide Tryd.prog W r b0 48 v) (h : DataW.Trod enc Tryd.prog W 0 spare held 48 v d p) : ∃ xs, Sl kint W (fun _ => True) v xs :=
  open_list Tryd.underlying48 Tryd.cells3 (by decide) (fun _ _ _ h _ => el_int h) hv h
theorem arg_bytes {r : Reach} {b0 : Nat} {v : Value} {d : DataW H} {p : List MemPlace} (hv : Value.okWide Tryd.prog W r b0 28 v) (h : DataW.Trod enc Tryd.prog W 0 spare held 28 v d p) : ∃ xs, Sl kbyte W (fun _ => True) v xs :=
  open_list Tryd.underlying28 Tryd.cells5 (by decide) (fun _ _ _ h _ => el_byte h) hv h
theorem arg_pairs {r : Reach} {b0 : Nat} {v : Value} {d : DataW H} {p : List MemPlace} (hv : Value.okWide Tryd.prog W r b0 44 v) (h : DataW.Trod enc Tryd.prog W 0 spare held 44 v d p) : ∃ xs, Sl kpair W (fun _ => True) v xs :=
  open_list Tryd.underlying44 Tryd.cells59 (by decide) (fun _ _ _ h hl => el_pair h hl) hv h
theorem arg_nodes {r : Reach} {b0 : Nat} {v : Value} {d : DataW H} {p : List MemPlace} (hv : Value.okWide Tryd.prog W r b0 22 v) (h : DataW.Trod enc Tryd.prog W 0 spare held 22 v d p) : ∃ xs, Sl knode W (fun _ => True) v xs :=
  open_list Tryd.underlying22 Tryd.cells27 (by decide) (fun _ _ _ h hl => el_node h hl) hv h
theorem arg_byteLists {r : Reach} {b0 : Nat} {v : Value} {d : DataW H} {p : List MemPlace} (hv : Value.okWide Tryd.prog W r b0 29 v) (h : DataW.Trod enc Tryd.prog W 0 spare held 29 v d p) : ∃ xs, Sl (kslice kbyte) W (fun _ => True) v xs :=
  open_list Tryd.underlying29 Tryd.cells28 (by decide) (fun n cs z h hl => by
    match cs, hl with
    | [c], _ =>
      obtain ⟨xs, hx⟩ := open_sl (K := kbyte) Tryd.underlying28 Tryd.cells5 (by decide) (fun _ _ _ h _ => el_byte h) h
      exact ⟨xs, c, rfl, hx⟩) hv h
end Go.Proofs.YtikgdhmnnnicmaaDoor
