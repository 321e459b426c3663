/- strconv.Atoi at every text, where the library's two errors read as laid. No other condition. -/
import Derived.Test.YtgbladpoglhleaaGreatDoorShelfA
import Derived.Test.YtgbladpoglhleaaGreatDoorB
import Derived.Shelf.Strconv.ErrVarAll
import Derived.Shelf.Strconv.AtoiAll
import Derived.Lib.AtoiErrMem
namespace Go.Proofs.YtgbladpoglhleaaGreatDoor
open Go.RowKit Go.Shelf
theorem atoi_ok (s : ByteArray) (hs : s.size ≤ 4096) (v : Int) (h : Lib.atoiAll s.data.toList = .ok v) (w : World) :
    Calls Tryz.prog 69 #[.string s] w fun e w' => e = .returned (.tuple #[.int .i64 v, .nilIface]) ∧ Below w.heap.size w w' :=
  (Any.strconv_Atoi_ok Tryz.laysC172 s (by omega) v h w).mono fun e w' ⟨he, hw⟩ => ⟨he, by
    rcases hw with rfl | ⟨t, rfl⟩
    · exact Below.refl _ _
    · exact Lib.bytesWorld_below _ _ _⟩
/-- The two errors of the library. -/
structure Errs (w : World) : Prop where
  syn : ∃ tp p, w.var? Tryz.prog "strconv.ErrSyntax" = some #[.iface tp p]
  rng : ∃ tp p, w.var? Tryz.prog "strconv.ErrRange" = some #[.iface tp p]
theorem atoi_bad (s : ByteArray) (hs : s.size ≤ 4096) (h : ∀ v, Lib.atoiAll s.data.toList ≠ .ok v) (w : World) (E : Errs w) :
    Calls Tryz.prog 69 #[.string s] w fun e w' => ∃ k t a, e = .returned (.tuple #[.int .i64 k, .iface t (.pointer (some a))]) ∧ Below w.heap.size w w' := by
  rcases hq : Lib.atoiAll s.data.toList with v | _ | _
  · exact absurd hq (h v)
  · obtain ⟨tp, p, hv⟩ := E.syn
    exact (Any.strconv_Atoi_syntax_var Tryz.laysC172 s (by omega) hq tp p w hv).mono fun e w' ⟨N, he, _, _, hb⟩ => ⟨_, _, _, he, hb⟩
  · obtain ⟨tp, p, hv⟩ := E.rng
    exact (Any.strconv_Atoi_range_var Tryz.laysC172 s (by omega) hq tp p w hv).mono fun e w' ⟨N, he, _, _, hb⟩ => ⟨_, _, _, he, hb⟩
end Go.Proofs.YtgbladpoglhleaaGreatDoor
