/- The names of shards: the program's and the document's are one text, where the library's table reads as it was laid. No other condition. -/
import Derived.Test.YtgbladpoglhleaaGreatDoorShelfI
import Derived.Test.YtgbladpoglhleaaGreatDoorB
import Derived.Shelf.Strconv.Itoa3
import Derived.Lib.LaidTab
import Derived.Lib.ItoaLen
namespace Go.Proofs.YtgbladpoglhleaaGreatDoor
open Go.RowKit Go.Shelf
def shardS (g i : Int) : ByteArray := ⟨#[115, 46]⟩ ++ ⟨(Lib.itoa g).toArray⟩ ++ ⟨#[46]⟩ ++ ⟨(Lib.itoa i).toArray⟩
def Pow (w : World) : Prop := Lib.TabIs Tryz.prog w "internal/strconv.uint64pow10" .u64 Lib.pow10Tab
theorem Pow.below {w w' : World} (h : Pow w) (hb : Below w.heap.size w w') : Pow w' := by
  unfold Pow Lib.TabIs World.var? at h ⊢
  cases hg : Tryz.prog.globalNamed "internal/strconv.uint64pow10" with
  | none => rw [hg] at h; simp at h
  | some g =>
    rw [hg] at h
    simp only [Option.bind_some] at h ⊢
    cases hq : w.heap[g]? with
    | none => rw [hq] at h; simp at h
    | some o =>
      rw [bblk hb hq]
      rw [hq] at h
      exact h
theorem itoa_any (n : Int) (h0 : 0 ≤ n) (h1 : n ≤ 9223372036854775807) (w : World) (htab : Pow w) :
    Calls Tryz.prog 43 #[.int .i64 n] w fun e w' => e = .returned (.string ⟨(Lib.itoa n).toArray⟩) ∧ Below w.heap.size w w' :=
  (Tryz.strconv_Itoa n (by omega) h1 w htab).mono fun e w' ⟨he, k, os, hw⟩ => ⟨he, by
    subst hw
    exact ⟨rfl, rfl, rfl, by simp [Go.Sort.grow, World.drewN], fun q hq => Array.getElem?_append_left hq⟩⟩
set_option maxHeartbeats 1000000 in
set_option maxRecDepth 100000 in
theorem shard_any (g i : Int) (h0 : 0 ≤ g) (h1 : g ≤ 9223372036854775807) (h2 : 0 ≤ i) (h3 : i ≤ 9223372036854775807) (w : World) (htab : Pow w) :
    Calls Tryz.prog 12 #[.int .i64 g, .int .i64 i] w fun e w' => e = .returned (.string (shardS g i)) ∧ Below w.heap.size w w' := by
  have l1 := Lib.itoa_length_le g (by omega) h1
  have l2 := Lib.itoa_length_le i (by omega) h3
  have b1 : ¬ (9223372036854775807 < 2 + (Lib.itoa g).length) := by omega
  have b2 : ¬ (9223372036854775807 < 2 + (Lib.itoa g).length + 1) := by omega
  have b3 : ¬ (9223372036854775807 < 2 + (Lib.itoa g).length + 1 + (Lib.itoa i).length) := by omega
  go_enter Tryz.func12, Tryz.ntmps12
  go_wp2_with fail
  refine (itoa_any g h0 h1 w htab).mono ?_
  rintro e w1 ⟨rfl, B1⟩
  have ht1 := Aside.mk (htab.below B1)
  have HB1 := Aside.mk B1
  clear htab B1
  go_wp2_with fail
  refine (itoa_any i h2 h3 w1 ht1.out).mono ?_
  rintro e w2 ⟨rfl, B2⟩
  have HB2 := Aside.mk (bthen HB1.out HB1.out.size B2)
  clear B2
  go_wp2
  go_ret
  exact ⟨rfl, HB2.out⟩
set_option maxHeartbeats 1000000 in
set_option maxRecDepth 100000 in
theorem refShard_any (g i : Int) (h0 : 0 ≤ g) (h1 : g ≤ 9223372036854775807) (h2 : 0 ≤ i) (h3 : i ≤ 9223372036854775807) (w : World) (htab : Pow w) :
    Calls Tryz.prog 13 #[.int .i64 g, .int .i64 i] w fun e w' => e = .returned (.string (shardS g i)) ∧ Below w.heap.size w w' := by
  have l1 := Lib.itoa_length_le g (by omega) h1
  have l2 := Lib.itoa_length_le i (by omega) h3
  have b1 : ¬ (9223372036854775807 < 2 + (Lib.itoa g).length) := by omega
  have b2 : ¬ (9223372036854775807 < 2 + (Lib.itoa g).length + 1) := by omega
  have b3 : ¬ (9223372036854775807 < 2 + (Lib.itoa g).length + 1 + (Lib.itoa i).length) := by omega
  go_enter Tryz.func13, Tryz.ntmps13
  go_wp2_with fail
  refine (itoa_any g h0 h1 w htab).mono ?_
  rintro e w1 ⟨rfl, B1⟩
  have ht1 := Aside.mk (htab.below B1)
  have HB1 := Aside.mk B1
  clear htab B1
  go_wp2_with fail
  refine (itoa_any i h2 h3 w1 ht1.out).mono ?_
  rintro e w2 ⟨rfl, B2⟩
  have HB2 := Aside.mk (bthen HB1.out HB1.out.size B2)
  clear B2
  go_wp2
  go_ret
  exact ⟨rfl, HB2.out⟩
end Go.Proofs.YtgbladpoglhleaaGreatDoor
