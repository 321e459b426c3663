/- More of the laws' arguments, opened: lists of texts, of bytes, of lists of bytes. No condition. -/
import Derived.Test.YtgbladpoglhleaaGreatDoorMg
import Derived.Test.YtgbladpoglhleaaGreatDoorNz
namespace Go.Proofs.YtgbladpoglhleaaGreatDoor
open Go.RowKit Go.Deep Go.ChangeShapes Go.WideShapes Go.Joins
set_option maxRecDepth 100000
variable {H : Type} {enc : TypeId × Value → H} {W : World} {spare : Nat → Bool} {held : Bool}
theorem open_list {α : Type} {K : Kind α} {P : Program} {t e : TypeId} {v : Value} {d : DataW H} {p : List MemPlace} (ht : P.underlying t = some (.slice e)) (hsz : P.cellsOf e = K.sz) (h0 : 0 < K.sz)
    (hK : ∀ (n : Nat) (cs : List Value) (z : DataW H × List MemPlace), DataW.trod enc P W 0 spare held n e cs = some z → cs.length = K.sz → ∃ x, K.R W (fun _ => True) x cs)
    {r : Reach} {b0 : Nat} (hv : Value.okWide P W r b0 t v) (h : DataW.Trod enc P W 0 spare held t v d p) : ∃ xs, Sl K W (fun _ => True) v xs := by
  obtain ⟨a, len, cap, rfl⟩ := okWide_slice ht hv
  obtain ⟨fuel, hf⟩ := h
  exact open_sl ht hsz h0 hK hf
theorem el_str {n : Nat} {cs : List Value} {z : DataW H × List MemPlace} (h : DataW.trod enc Tryz.prog W 0 spare held n 9 cs = some z) : ∃ x, kstr.R W (fun _ => True) x cs := by
  obtain ⟨s, rfl, _⟩ := DataW.trod_string Tryz.underlying9 h
  exact ⟨s.data.toList, by show [Value.string s] = [strV s.data.toList]; rw [strV_of]⟩
theorem el_byte {n : Nat} {cs : List Value} {z : DataW H × List MemPlace} (h : DataW.trod enc Tryz.prog W 0 spare held n 5 cs = some z) : ∃ x, kbyte.R W (fun _ => True) x cs := by
  obtain ⟨x, rfl, _, hw⟩ := DataW.trod_int Tryz.underlying5 h
  have := bounds_u8 hw
  refine ⟨UInt8.ofNat x.toNat, ?_⟩
  show [Value.int .u8 x] = [Value.int .u8 ((UInt8.ofNat x.toNat).toNat : Int)]
  have : ((UInt8.ofNat x.toNat).toNat : Int) = x := by
    rw [UInt8.toNat_ofNat']
    omega
  rw [this]
theorem Tryz.cells9 : Tryz.prog.cellsOf 9 = 1 := by kernel_rfl
theorem Tryz.cells5 : Tryz.prog.cellsOf 5 = 1 := by kernel_rfl
theorem Tryz.cells44 : Tryz.prog.cellsOf 44 = 1 := by kernel_rfl
theorem arg_strings {r : Reach} {b0 : Nat} {v : Value} {d : DataW H} {p : List MemPlace} (hv : Value.okWide Tryz.prog W r b0 22 v) (h : DataW.Trod enc Tryz.prog W 0 spare held 22 v d p) : ∃ xs, Sl kstr W (fun _ => True) v xs :=
  open_list Tryz.underlying22 Tryz.cells9 (by decide) (fun _ _ _ h _ => el_str h) hv h
theorem arg_bytes {r : Reach} {b0 : Nat} {v : Value} {d : DataW H} {p : List MemPlace} (hv : Value.okWide Tryz.prog W r b0 44 v) (h : DataW.Trod enc Tryz.prog W 0 spare held 44 v d p) : ∃ xs, Sl kbyte W (fun _ => True) v xs :=
  open_list Tryz.underlying44 Tryz.cells5 (by decide) (fun _ _ _ h _ => el_byte h) hv h
theorem arg_byteLists {r : Reach} {b0 : Nat} {v : Value} {d : DataW H} {p : List MemPlace} (hv : Value.okWide Tryz.prog W r b0 45 v) (h : DataW.Trod enc Tryz.prog W 0 spare held 45 v d p) : ∃ xs, Sl (kslice kbyte) W (fun _ => True) v xs :=
  open_list Tryz.underlying45 Tryz.cells44 (by decide) (fun n cs z h hl => by
    match cs, hl with
    | [c], _ =>
      obtain ⟨xs, hx⟩ := open_sl (K := kbyte) Tryz.underlying44 Tryz.cells5 (by decide) (fun _ _ _ h _ => el_byte h) h
      exact ⟨xs, c, rfl, hx⟩) hv h
end Go.Proofs.YtgbladpoglhleaaGreatDoor
