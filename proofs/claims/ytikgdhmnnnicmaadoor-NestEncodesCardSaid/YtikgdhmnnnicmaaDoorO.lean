/- nest.Up and the reference's Up: both the same list. No condition. -/
import Derived.Test.YtikgdhmnnnicmaaDoorP
namespace Go.Proofs.YtikgdhmnnnicmaaDoor
open Go.RowKit
def upN (nodes : List Node) : Nat → Int → Int → List Int
  | 0, _, _ => []
  | f + 1, last, i => if last < i ∧ i < nodes.length then i :: upN nodes f i (nodes.getD i.toNat ⟨0, 0, 0, 0⟩).Parent else []
set_option maxHeartbeats 4000000 in
set_option maxRecDepth 100000 in
theorem Up_any {w : World} {ok : Nat → Prop} {v : Value} {nodes : List Node} {k : Int} (hs : Sl knode w ok v nodes) (hl : nodes.length ≤ 16777216) : Calls Tryd.prog 19 #[v, .int .i64 k] w (IntsPost w (upN nodes (nodes.length + 1) (-1) k)) := by
  obtain ⟨A, c, rfl, hc, hm⟩ := hs.slice
  have HS := Aside.mk hs
  have HR0 : Aside (w.ownsRow w.heap.size 3 1 (.slice none 0 0) ([] : List Int).length (ints [])) := ⟨World.ownsRow_nil _ _ _ _⟩
  clear hs
  go_enter Tryd.func19, Tryd.ntmps19
  go_wp2
  go_loopg [1, 5, 6] (nodes.length + 1) (fun kq v1 v5 v6 wr => ∃ (i last : Int) (acc : List Int), v1 = .int .i64 i ∧ v6 = .int .i64 last ∧ Aside (acc ++ upN nodes kq last i = upN nodes (nodes.length + 1) (-1) k) ∧ Aside (-1 ≤ last ∧ (nodes.length : Int) - last ≤ kq ∧ acc.length + kq = nodes.length + 1) ∧
    Aside (Below w.heap.size w wr) ∧ Aside (wr.ownsRow w.heap.size 3 1 v5 acc.length (ints acc)))
  case atStart => exact ⟨k, -1, [], rfl, rfl, ⟨by simp⟩, ⟨by omega, by omega, by simp⟩, ⟨Below.refl _ _⟩, HR0⟩
  case round =>
    clear HR0
    obtain ⟨i, last, acc, rfl, rfl, HT, HI, HB, HR⟩ := hrel
    by_cases hi : last < i ∧ i < nodes.length
    · obtain ⟨h1, h2, h3⟩ := HI.out
      obtain ⟨j, rfl⟩ := Int.eq_ofNat_of_zero_le (show 0 ≤ i by omega)
      have hj : j < nodes.length := by omega
      have ht := HT.out
      obtain ⟨g, rfl⟩ : ∃ g, gk = g + 1 := ⟨gk - 1, by omega⟩
      simp only [upN, if_pos hi, Int.toNat_natCast] at ht
      rw [show nodes.getD j ⟨0, 0, 0, 0⟩ = nodes[j] by rw [List.getD_eq_getElem?_getD, List.getElem?_eq_getElem hj]; rfl] at ht
      have HT2 := Aside.mk ht
      have d1 : decide (last < (j : Int)) = true := decide_eq_true hi.1
      have d2 : decide ((j : Int) < (nodes.length : Int)) = true := decide_eq_true hi.2
      have HN := HS
      have HJ := Aside.mk hj
      have HI2 := Aside.mk (And.intro h1 (And.intro h2 (And.intro h3 hi.1)))
      have hal : acc.length ≤ nodes.length := by omega
      clear ht HT hi h1 h2 h3 HI
      go_wp2_with (at_builtin; go_must (refine app_one w.heap.size rfl _ _ 48 3 (.int .i64 0) 1 8 rfl Tryd.underlying48 Tryd.info3 rfl (by decide) (by decide) u5 acc.length _ [.int .i64 (j : Int)] rfl rfl rfl (by simp [Value.oneCell']) HR.out HB.out.size (by omega) ?_; intro v1 w6 hown hg6 hat; have hb6 := HB.out.grown hg6 HB.out.size fun q e => (HR.out.lt q e).1; obtain ⟨b, o, e, y0, y1, y2, y3⟩ := (HS.out.below hb6).node j HJ.out; cases e; have HB6 := Aside.mk hb6; have HO6 := Aside.mk hown; clear y0 y1 y2 hb6 hown hg6 hat; generalize nodes[j] = y at *))
      go_roundg g
      case measure => omega
      case rel => exact ⟨_, j, acc ++ [(j : Int)], rfl, rfl, ⟨by rw [List.append_assoc]; exact HT2.out⟩, ⟨by omega, by have := HI2.out; omega, by have := HI2.out; simp; omega⟩, HB6, ⟨by simpa [ints] using HO6.out⟩⟩
    · have ht := HT.out
      have hnil : upN nodes gk last i = [] := by
        cases gk with
        | zero => rfl
        | succ g => simp only [upN, if_neg hi]
      rw [hnil, List.append_nil] at ht
      have HP : Aside (IntsPost w (upN nodes (nodes.length + 1) (-1) k) (.returned u5) wr) := ⟨_, rfl, by rw [← ht]; exact HR.out, HB.out⟩
      clear HT HI HB HR ht hnil
      by_cases c1 : last < i
      · have d1 : decide (last < i) = true := decide_eq_true c1
        have d2 : decide (i < (nodes.length : Int)) = false := decide_eq_false fun h => hi ⟨c1, h⟩
        clear hi c1
        go_wp2
        go_ret
        exact HP.out
      · have d1 : decide (last < i) = false := decide_eq_false c1
        clear hi c1
        go_wp2
        go_ret
        exact HP.out
end Go.Proofs.YtikgdhmnnnicmaaDoor
