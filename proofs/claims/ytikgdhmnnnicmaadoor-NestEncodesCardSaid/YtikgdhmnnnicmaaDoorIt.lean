/- nest.Name and the reference's: one text, where the library's table reads as it was laid. -/
import Derived.Test.YtikgdhmnnnicmaaDoorShelfI
import Derived.Test.YtikgdhmnnnicmaaDoorB
import Derived.Shelf.Strconv.Itoa3
import Derived.Lib.LaidTab
import Derived.Lib.ItoaLen
namespace Go.Proofs.YtikgdhmnnnicmaaDoor
open Go.RowKit Go.Shelf
def nameS (n : Int) : ByteArray := ⟨#[110, 101, 115, 116, 46]⟩ ++ ⟨(Lib.itoa n).toArray⟩
def GrownW (w w' : World) : Prop := ∃ k os, w' = Go.Sort.grow (w.drewN k) os
theorem itoa_any (n : Int) (h0 : 0 ≤ n) (h1 : n ≤ 9223372036854775807) (w : World) (htab : Lib.TabIs Tryd.prog w "internal/strconv.uint64pow10" .u64 Lib.pow10Tab) :
    Calls Tryd.prog 20 #[.int .i64 n] w fun e w' => e = .returned (.string ⟨(Lib.itoa n).toArray⟩) ∧ GrownW w w' :=
  Tryd.strconv_Itoa n (by omega) h1 w htab
theorem GrownW.below {w w' : World} (h : GrownW w w') : Below w.heap.size w w' := by
  obtain ⟨k, os, rfl⟩ := h
  exact ⟨rfl, rfl, rfl, by simp [Go.Sort.grow, World.drewN], fun q hq => Array.getElem?_append_left hq⟩
set_option maxRecDepth 100000 in
theorem name_any (n : Int) (h0 : 0 ≤ n) (h1 : n ≤ 9223372036854775807) (w : World) (htab : Lib.TabIs Tryd.prog w "internal/strconv.uint64pow10" .u64 Lib.pow10Tab) :
    Calls Tryd.prog 5 #[.int .i64 n] w fun e w' => e = .returned (.string (nameS n)) ∧ Below w.heap.size w w' := by
  have hc := itoa_any n h0 h1 w htab
  have hlen := Lib.itoa_length_le n (by omega) h1
  have hno : ¬ (9223372036854775807 < 5 + (Lib.itoa n).length) := by omega
  go_enter Tryd.func5, Tryd.ntmps5
  go_wp2_with fail
  refine hc.mono ?_
  clear hc
  rintro e w1 ⟨rfl, hg⟩
  have HB := Aside.mk hg.below
  clear hg
  go_wp2
  go_ret
  exact ⟨rfl, HB.out⟩
set_option maxRecDepth 100000 in
theorem refName_any (n : Int) (h0 : 0 ≤ n) (h1 : n ≤ 9223372036854775807) (w : World) (htab : Lib.TabIs Tryd.prog w "internal/strconv.uint64pow10" .u64 Lib.pow10Tab) :
    Calls Tryd.prog 6 #[.int .i64 n] w fun e w' => e = .returned (.string (nameS n)) ∧ Below w.heap.size w w' := by
  have hc := itoa_any n h0 h1 w htab
  have hlen := Lib.itoa_length_le n (by omega) h1
  have hno : ¬ (9223372036854775807 < 5 + (Lib.itoa n).length) := by omega
  go_enter Tryd.func6, Tryd.ntmps6
  go_wp2_with fail
  refine hc.mono ?_
  clear hc
  rintro e w1 ⟨rfl, hg⟩
  have HB := Aside.mk hg.below
  clear hg
  go_wp2
  go_ret
  exact ⟨rfl, HB.out⟩
end Go.Proofs.YtikgdhmnnnicmaaDoor
