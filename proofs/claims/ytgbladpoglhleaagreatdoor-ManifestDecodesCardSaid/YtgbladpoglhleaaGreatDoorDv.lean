/- The law's edits as an argument, opened. No condition. -/
import Derived.Test.YtgbladpoglhleaaGreatDoorDu
import Derived.Test.YtgbladpoglhleaaGreatDoorAg
namespace Go.Proofs.YtgbladpoglhleaaGreatDoor
open Go.RowKit Go.Deep Go.ChangeShapes Go.WideShapes Go.Joins
set_option maxRecDepth 100000
variable {H : Type} {enc : TypeId × Value → H} {W : World} {spare : Nat → Bool} {held : Bool}
theorem Tryz.cells92 : Tryz.prog.cellsOf 92 = 5 := by kernel_rfl
theorem el_edit {n : Nat} {cs : List Value} {z : DataW H × List MemPlace} (h : DataW.trod enc Tryz.prog W 0 spare held n 92 cs = some z) (hl : cs.length = 5) : ∃ x, kedit.R W (fun _ => True) x cs := by
  obtain ⟨y0, y1, y2, y3, y4, m, h0, h1, h2, h3, h4⟩ := trod_struct5' Tryz.underlying92 h
  match cs, hl with
  | [c0, c1, c2, c3, c4], _ =>
    simp only [Tryz.cells3, Tryz.cells5, Tryz.cells44, List.drop_zero, List.drop_succ_cons, List.take_succ_cons, List.take_zero] at h0 h1 h2 h3 h4
    obtain ⟨a, e0, _⟩ := DataW.trod_int Tryz.underlying3 h0
    obtain ⟨b, e1, _⟩ := DataW.trod_int Tryz.underlying3 h1
    obtain ⟨c, e2, _⟩ := DataW.trod_int Tryz.underlying3 h2
    obtain ⟨x, e3⟩ := el_byte h3
    cases e0
    cases e1
    cases e2
    cases e3
    obtain ⟨xs, hx⟩ := open_sl (K := kbyte) Tryz.underlying44 Tryz.cells5 (by decide) (fun _ _ _ h _ => el_byte h) h4
    exact ⟨⟨a, b, c, x, xs⟩, c4, rfl, hx⟩
theorem arg_edits {r : Reach} {b0 : Nat} {v : Value} {d : DataW H} {p : List MemPlace} (hv : Value.okWide Tryz.prog W r b0 56 v) (h : DataW.Trod enc Tryz.prog W 0 spare held 56 v d p) : ∃ xs, Sl kedit W (fun _ => True) v xs :=
  open_list Tryz.underlying56 Tryz.cells92 (by decide) (fun _ _ _ h hl => el_edit h hl) hv h
end Go.Proofs.YtgbladpoglhleaaGreatDoor
