/- order.Name and the reference's: one text, where the library's table reads as it was laid. -/
import Derived.Test.YtjncnppbaldmiaaGreatDoorShelfI
import Derived.Test.YtjncnppbaldmiaaGreatDoorB
import Derived.Shelf.Strconv.Itoa3
import Derived.Lib.LaidTab
import Derived.Lib.ItoaLen
namespace Go.Proofs.YtjncnppbaldmiaaGreatDoor
open Go.RowKit Go.Shelf
def Pow (w : World) : Prop := Lib.TabIs Tryz.prog w "internal/strconv.uint64pow10" .u64 Lib.pow10Tab
theorem Pow.below {w w' : World} (h : Pow w) (hb : Below w.heap.size w w') : Pow w' := by
  unfold Pow Lib.TabIs World.var? at h ⊢
  cases hg : Tryz.prog.globalNamed "internal/strconv.uint64pow10" with
  | none => rw [hg] at h; simp at h
  | some g =>
    rw [hg] at h
    simp only [Option.bind_some] at h ⊢
    cases hq : w.heap[g]? with
    | none => rw [hq] at h; simp at h
    | some o =>
      rw [bblk hb hq]
      rw [hq] at h
      exact h
def nameS (n : Int) : ByteArray := ⟨#[111, 114, 100, 101, 114, 46]⟩ ++ ⟨(Lib.itoa n).toArray⟩
def GrownW (w w' : World) : Prop := ∃ k os, w' = Go.Sort.grow (w.drewN k) os
theorem itoa_any (n : Int) (h0 : 0 ≤ n) (h1 : n ≤ 9223372036854775807) (w : World) (htab : Pow w) :
    Calls Tryz.prog 35 #[.int .i64 n] w fun e w' => e = .returned (.string ⟨(Lib.itoa n).toArray⟩) ∧ GrownW w w' :=
  Tryz.strconv_Itoa n (by omega) h1 w htab
theorem GrownW.below {w w' : World} (h : GrownW w w') : Below w.heap.size w w' := by
  obtain ⟨k, os, rfl⟩ := h
  exact ⟨rfl, rfl, rfl, by simp [Go.Sort.grow, World.drewN], fun q hq => Array.getElem?_append_left hq⟩
set_option maxRecDepth 100000 in
theorem name_any (n : Int) (h0 : 0 ≤ n) (h1 : n ≤ 9223372036854775807) (w : World) (htab : Pow w) :
    Calls Tryz.prog 14 #[.int .i64 n] w fun e w' => e = .returned (.string (nameS n)) ∧ Below w.heap.size w w' := by
  have hc := itoa_any n h0 h1 w htab
  have hlen := Lib.itoa_length_le n (by omega) h1
  have hno : ¬ (9223372036854775807 < 6 + (Lib.itoa n).length) := by omega
  go_enter Tryz.func14, Tryz.ntmps14
  go_wp2_with fail
  refine hc.mono ?_
  clear hc
  rintro e w1 ⟨rfl, hg⟩
  have HB := Aside.mk hg.below
  clear hg
  go_wp2
  go_ret
  exact ⟨rfl, HB.out⟩
set_option maxRecDepth 100000 in
theorem refName_any (n : Int) (h0 : 0 ≤ n) (h1 : n ≤ 9223372036854775807) (w : World) (htab : Pow w) :
    Calls Tryz.prog 15 #[.int .i64 n] w fun e w' => e = .returned (.string (nameS n)) ∧ Below w.heap.size w w' := by
  have hc := itoa_any n h0 h1 w htab
  have hlen := Lib.itoa_length_le n (by omega) h1
  have hno : ¬ (9223372036854775807 < 6 + (Lib.itoa n).length) := by omega
  go_enter Tryz.func15, Tryz.ntmps15
  go_wp2_with fail
  refine hc.mono ?_
  clear hc
  rintro e w1 ⟨rfl, hg⟩
  have HB := Aside.mk hg.below
  clear hg
  go_wp2
  go_ret
  exact ⟨rfl, HB.out⟩
end Go.Proofs.YtjncnppbaldmiaaGreatDoor
