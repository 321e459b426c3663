/- The laws' arguments, opened: lists of numbers, of bytes. No condition. -/
import Derived.Test.YtjncnppbaldmiaaGreatDoorB
import Derived.Test.YtjncnppbaldmiaaGreatDoorOt
import Derived.Test.YtjncnppbaldmiaaGreatDoorLa
import Derived.ProofKit
import Derived.Deep.Slices
import Derived.Lib.SmallJoins
namespace Go.Proofs.YtjncnppbaldmiaaGreatDoor
open Go.RowKit Go.Deep Go.ChangeShapes Go.WideShapes Go.Joins
set_option maxRecDepth 100000
variable {H : Type} {enc : TypeId × Value → H}
/-- A slice whose elements read one by one. -/
theorem open_sl {α : Type} {K : Kind α} {P : Program} {W : World} {spare : Nat → Bool} {held : Bool} {fuel : Nat} {t e : TypeId} {v : Value} {y : DataW H × List MemPlace} (ht : P.underlying t = some (.slice e)) (hsz : P.cellsOf e = K.sz) (h0 : 0 < K.sz)
    (hK : ∀ (n : Nat) (cs : List Value) (z : DataW H × List MemPlace), DataW.trod enc P W 0 spare held n e cs = some z → cs.length = K.sz → ∃ x, K.R W (fun _ => True) x cs)
    (h : DataW.trod enc P W 0 spare held fuel t [v] = some y) : ∃ xs, Sl K W (fun _ => True) v xs := by
  rcases open_slice ht h with ⟨hcs, _⟩ | ⟨a, len, cap, m, n, D, Pl, hcs, _, hl, hm, hmm, _, hx⟩
  · cases hcs
    exact ⟨[], Sl.nil K W _⟩
  · cases hcs
    have hlm : len ≤ m := by rw [hmm]; split <;> omega
    rw [hsz] at hx
    have each : ∀ i, i < len → ∃ x cs, K.R W (fun _ => True) x cs ∧ cs.length = K.sz ∧ ∀ j, j < K.sz → W.cell? ((a.add (i * K.sz)).add j) = cs[j]? := fun i hi => by
      obtain ⟨cs, h1, h2⟩ := hx i (by omega)
      obtain ⟨_, hlen, hcell⟩ := World.cells?_some h1
      obtain ⟨x, hx⟩ := hK n cs _ h2 hlen
      exact ⟨x, cs, hx, hlen, hcell⟩
    have hm' : cap ≤ 9223372036854775807 := by simpa only [maxLen] using hm
    cases len with
    | zero => exact ⟨[], some a, cap, rfl, Nat.zero_le _, hm', fun q => absurd q (Nat.lt_irrefl 0)⟩
    | succ k =>
      obtain ⟨x0, cs0, _, hl0, hc0⟩ := each 0 (by omega)
      have hcell0 : W.cell? (a.add 0) = some (cs0[0]'(by omega)) := by
        have := hc0 0 h0
        rw [Go.Deep.add_add, Nat.zero_mul] at this
        rw [this, List.getElem?_eq_getElem (by omega)]
      obtain ⟨b, o, sp⟩ := a
      have hsp : sp = none := by
        have := World.cell?_spot hcell0
        simpa [Addr.add] using this
      subst hsp
      have hb : b < W.heap.size := by
        have := World.block_lt_of_cell? W _ hcell0
        simpa [Addr.add] using this
      have hex : ∃ f : Fin (k + 1) → α, ∀ i : Fin (k + 1), ∃ cs, K.R W (fun _ => True) (f i) cs ∧ cs.length = K.sz ∧ ∀ j, j < K.sz → W.cell? (((⟨b, o, none⟩ : Addr).add (i.1 * K.sz)).add j) = cs[j]? :=
        ⟨fun i => Classical.choose (each i.1 i.2), fun i => Classical.choose_spec (each i.1 i.2)⟩
      obtain ⟨f, hf⟩ := hex
      refine ⟨List.ofFn f, some ⟨b, o, none⟩, cap, by simp, by simpa using hl, hm', fun _ => ⟨b, o, rfl, trivial, hb, fun i x hx => ?_⟩⟩
      have hi : i < k + 1 := by simpa using (List.getElem?_eq_some_iff.1 hx).1
      obtain ⟨cs, c1, c2, c3⟩ := hf ⟨i, hi⟩
      rw [List.getElem?_ofFn, dif_pos hi, Option.some.injEq] at hx
      subst hx
      refine ⟨cs, c1, fun j u hu => ?_⟩
      have hj := (List.getElem?_eq_some_iff.1 hu).1
      have := c3 j (by omega)
      rw [Go.Deep.add_add, addr_add] at this
      rw [Nat.add_assoc, this, hu]
variable {W : World} {spare : Nat → Bool} {held : Bool}
theorem open_list {α : Type} {K : Kind α} {P : Program} {t e : TypeId} {v : Value} {d : DataW H} {p : List MemPlace} (ht : P.underlying t = some (.slice e)) (hsz : P.cellsOf e = K.sz) (h0 : 0 < K.sz)
    (hK : ∀ (n : Nat) (cs : List Value) (z : DataW H × List MemPlace), DataW.trod enc P W 0 spare held n e cs = some z → cs.length = K.sz → ∃ x, K.R W (fun _ => True) x cs)
    {r : Reach} {b0 : Nat} (hv : Value.okWide P W r b0 t v) (h : DataW.Trod enc P W 0 spare held t v d p) : ∃ xs, Sl K W (fun _ => True) v xs := by
  obtain ⟨a, len, cap, rfl⟩ := okWide_slice ht hv
  obtain ⟨fuel, hf⟩ := h
  exact open_sl ht hsz h0 hK hf
theorem el_int {n : Nat} {cs : List Value} {z : DataW H × List MemPlace} (h : DataW.trod enc Tryz.prog W 0 spare held n 3 cs = some z) : ∃ x, kint.R W (fun _ => True) x cs := by
  obtain ⟨x, rfl, _⟩ := DataW.trod_int Tryz.underlying3 h
  exact ⟨x, rfl⟩
theorem el_byte {n : Nat} {cs : List Value} {z : DataW H × List MemPlace} (h : DataW.trod enc Tryz.prog W 0 spare held n 5 cs = some z) : ∃ x, kbyte.R W (fun _ => True) x cs := by
  obtain ⟨x, rfl, _, hw⟩ := DataW.trod_int Tryz.underlying5 h
  have := bounds_u8 hw
  refine ⟨UInt8.ofNat x.toNat, ?_⟩
  show [Value.int .u8 x] = [Value.int .u8 ((UInt8.ofNat x.toNat).toNat : Int)]
  have : ((UInt8.ofNat x.toNat).toNat : Int) = x := by
    rw [UInt8.toNat_ofNat']
    omega
  rw [this]
theorem Tryz.cells3 : Tryz.prog.cellsOf 3 = 1 := by kernel_rfl
theorem Tryz.cells5 : Tryz.prog.cellsOf 5 = 1 := by kernel_rfl
theorem Tryz.cells25 : Tryz.prog.cellsOf 25 = 1 := by kernel_rfl
theorem arg_ints {r : Reach} {b0 : Nat} {v : Value} {d : DataW H} {p : List MemPlace} (hv : Value.okWide Tryz.prog W r b0 22 v) (h : DataW.Trod enc Tryz.prog W 0 spare held 22 v d p) : ∃ xs, Sl kint W (fun _ => True) v xs :=
  open_list Tryz.underlying22 Tryz.cells3 (by decide) (fun _ _ _ h _ => el_int h) hv h
theorem arg_bytes {r : Reach} {b0 : Nat} {v : Value} {d : DataW H} {p : List MemPlace} (hv : Value.okWide Tryz.prog W r b0 25 v) (h : DataW.Trod enc Tryz.prog W 0 spare held 25 v d p) : ∃ xs, Sl kbyte W (fun _ => True) v xs :=
  open_list Tryz.underlying25 Tryz.cells5 (by decide) (fun _ _ _ h _ => el_byte h) hv h
theorem arg_byteLists {r : Reach} {b0 : Nat} {v : Value} {d : DataW H} {p : List MemPlace} (hv : Value.okWide Tryz.prog W r b0 26 v) (h : DataW.Trod enc Tryz.prog W 0 spare held 26 v d p) : ∃ xs, Sl (kslice kbyte) W (fun _ => True) v xs :=
  open_list Tryz.underlying26 Tryz.cells25 (by decide) (fun n cs z h hl => by
    match cs, hl with
    | [c], _ =>
      obtain ⟨xs, hx⟩ := open_sl (K := kbyte) Tryz.underlying25 Tryz.cells5 (by decide) (fun _ _ _ h _ => el_byte h) h
      exact ⟨xs, c, rfl, hx⟩) hv h
theorem gPow : Tryz.prog.globalNamed "internal/strconv.uint64pow10" = some 1 := by kernel_rfl
theorem gPowType : (Tryz.prog.globals[1]?).map (·.type) = some 284 := by kernel_rfl
theorem cells20 : Tryz.prog.cellsOf 284 = 20 := by kernel_rfl
theorem cells1 : Tryz.prog.cellsOf 242 = 1 := by kernel_rfl
theorem laid_pow : (Rows.orderEncodesRow.laid.filter fun x => x.1 == "internal/strconv.uint64pow10") = [("internal/strconv.uint64pow10", Lib.tabData .u64 Lib.pow10Tab)] := by kernel_rfl
theorem powT {W : World} (h : laidMetH Tryz.prog Rows.orderEncodesRow.laid W) : Pow W := by
  have h2 := laidMetH.filter (fun x => x.1 == "internal/strconv.uint64pow10") h
  rw [laid_pow] at h2
  exact Lib.tabIs_of_head (rest := []) gPow gPowType Tryz.underlying284 Tryz.underlying242 cells1 cells20 h2
end Go.Proofs.YtjncnppbaldmiaaGreatDoor
