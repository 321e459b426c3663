/- The reference's Level. No condition. -/
import Derived.Test.YtikgdhmnnnicmaaP
namespace Go.Proofs.Ytikgdhmnnnicmaa
open Go.RowKit
set_option maxHeartbeats 4000000 in
set_option maxRecDepth 100000 in
theorem refLevel_any {w : World} {ok : Nat → Prop} {v : Value} {nodes : List Node} {k : Int} (hs : Sl knode w ok v nodes) (hl : nodes.length ≤ 16777216) : Calls Try.prog 22 #[v, .int .i64 k] w (IntsPost w (topsOf nodes k nodes.length)) := by
  obtain ⟨A, c, rfl, hc, hm⟩ := hs.slice
  have HS := Aside.mk hs
  have HR0 : Aside (w.ownsRow w.heap.size 3 1 (.slice none 0 0) (topsOf nodes k 0).length (ints (topsOf nodes k 0))) := ⟨World.ownsRow_nil _ _ _ _⟩
  clear hs
  go_enter Try.func22, Try.ntmps22
  go_wp2
  go_loopg [5, 6] nodes.length (fun kq v5 ix wr => ∃ (i : Nat), Aside (i + kq = nodes.length) ∧ ix = .int .i64 i ∧ Aside (Below w.heap.size w wr) ∧ Aside (wr.ownsRow w.heap.size 3 1 v5 (topsOf nodes k i).length (ints (topsOf nodes k i))))
  case atStart => exact ⟨0, ⟨by omega⟩, rfl, ⟨Below.refl _ _⟩, HR0⟩
  case round =>
    clear HR0
    obtain ⟨i, HI, rfl, HB1, HR1⟩ := hrel
    by_cases hi : i < nodes.length
    · obtain ⟨b, o, e, q0, k1, k2, q3⟩ := (HS.out.below HB1.out).node i hi
      cases e
      have HT := Aside.mk (topsOf_succ (k := k) hi)
      generalize nodes[i] = x at *
      clear k1 k2
      by_cases c1 : x.K < k
      · have d1 : decide (x.K < k) = true := decide_eq_true c1
        have g1 : decide (k ≤ x.K) = false := decide_eq_false (by omega)
        have ht := HT.out
        rw [if_neg (by simp [isTop, d1])] at ht
        clear c1 HT d1
        go_wp2
        go_roundg (nodes.length - (i + 1))
        case measure => have := HI.out; omega
        case rel => exact ⟨i + 1, ⟨by omega⟩, by go_num, HB1, ⟨by rw [ht]; exact HR1.out⟩⟩
      · have d1 : decide (x.K < k) = false := decide_eq_false c1
        have g1 : decide (k ≤ x.K) = true := decide_eq_true (by omega)
        clear c1
        by_cases c2 : x.Parent = -1
        · have ht := HT.out
          rw [if_pos (by rw [isTop, d1, c2]; simp; omega)] at ht
          rw [c2] at q3
          clear HT d1 c2
          have hll := topsOf_length (nodes := nodes) (k := k) (i := i)
          go_wp2_with (at_builtin; go_must (refine app_one w.heap.size rfl _ _ 23 3 (.int .i64 0) 1 8 rfl Try.underlying23 Try.info3 rfl (by decide) (by decide) u5 (topsOf nodes k i).length _ [.int .i64 (i : Int)] rfl rfl rfl (by simp [Value.oneCell']) HR1.out HB1.out.size (by omega) ?_; intro v1 w6 hown hg6 hat))
          go_roundg (nodes.length - (i + 1))
          case measure => have := HI.out; omega
          case rel => exact ⟨i + 1, ⟨by omega⟩, by go_num, ⟨HB1.out.grown hg6 HB1.out.size fun q e => (HR1.out.lt q e).1⟩, ⟨by rw [ht]; simpa [ints] using hown⟩⟩
        · have g2 : (x.Parent == -1) = false := by simpa using c2
          by_cases c4 : 0 ≤ x.Parent
          · have g4 : decide (0 ≤ x.Parent) = true := decide_eq_true c4
            by_cases c3 : x.Parent < (nodes.length : Int)
            · have g3 : decide (x.Parent < (nodes.length : Int)) = true := decide_eq_true c3
              obtain ⟨j, hj⟩ := Int.eq_ofNat_of_zero_le c4
              have hjl : j < nodes.length := by omega
              obtain ⟨b2, o2, e, y0, _, _, _⟩ := (HS.out.below HB1.out).node j hjl
              cases e
              have hgd : nodes.getD x.Parent.toNat ⟨0, 0, 0, 0⟩ = nodes[j] := by rw [hj, Int.toNat_natCast, List.getD_eq_getElem?_getD, List.getElem?_eq_getElem hjl]; rfl
              have d2 : decide (x.Parent < -1) = false := decide_eq_false (by omega)
              have d3 : decide ((nodes.length : Int) ≤ x.Parent) = false := decide_eq_false (by omega)
              by_cases c5 : nodes[j].K < k
              · have g5 : decide (nodes[j].K < k) = true := decide_eq_true c5
                have d5 : decide (k ≤ nodes[j].K) = false := decide_eq_false (by omega)
                have ht := HT.out
                rw [if_pos (by simp only [isTop, d1, d2, d3, g4, hgd, d5]; simp)] at ht
                rw [hj] at q3 g2 g3 g4
                clear HT hgd c2 c3 c4 c5 d1 d2 d3 d5
                generalize nodes[j] = y at *
                have hll := topsOf_length (nodes := nodes) (k := k) (i := i)
                go_wp2_with (at_builtin; go_must (refine app_one w.heap.size rfl _ _ 23 3 (.int .i64 0) 1 8 rfl Try.underlying23 Try.info3 rfl (by decide) (by decide) u5 (topsOf nodes k i).length _ [.int .i64 (i : Int)] rfl rfl rfl (by simp [Value.oneCell']) HR1.out HB1.out.size (by omega) ?_; intro v1 w6 hown hg6 hat))
                go_roundg (nodes.length - (i + 1))
                case measure => have := HI.out; omega
                case rel => exact ⟨i + 1, ⟨by omega⟩, by go_num, ⟨HB1.out.grown hg6 HB1.out.size fun q e => (HR1.out.lt q e).1⟩, ⟨by rw [ht]; simpa [ints] using hown⟩⟩
              · have g5 : decide (nodes[j].K < k) = false := decide_eq_false c5
                have d5 : decide (k ≤ nodes[j].K) = true := decide_eq_true (by omega)
                have ht := HT.out
                rw [if_neg (by simp only [isTop, d1, d2, d3, g4, hgd, d5]; simp)] at ht
                rw [hj] at q3 g2 g3 g4
                clear HT hgd c2 c3 c4 c5 d1 d2 d3 d5
                generalize nodes[j] = y at *
                go_wp2
                go_roundg (nodes.length - (i + 1))
                case measure => have := HI.out; omega
                case rel => exact ⟨i + 1, ⟨by omega⟩, by go_num, HB1, ⟨by rw [ht]; exact HR1.out⟩⟩
            · have g3 : decide (x.Parent < (nodes.length : Int)) = false := decide_eq_false c3
              have d3 : decide ((nodes.length : Int) ≤ x.Parent) = true := decide_eq_true (by omega)
              have ht := HT.out
              rw [if_neg (by simp [isTop, d3])] at ht
              clear HT c2 c3 c4 d1 d3
              go_wp2
              go_roundg (nodes.length - (i + 1))
              case measure => have := HI.out; omega
              case rel => exact ⟨i + 1, ⟨by omega⟩, by go_num, HB1, ⟨by rw [ht]; exact HR1.out⟩⟩
          · have g4 : decide (0 ≤ x.Parent) = false := decide_eq_false c4
            have d2 : decide (x.Parent < -1) = true := decide_eq_true (by omega)
            have ht := HT.out
            rw [if_neg (by simp [isTop, d2])] at ht
            clear HT c2 c4 d1 d2
            go_wp2
            go_roundg (nodes.length - (i + 1))
            case measure => have := HI.out; omega
            case rel => exact ⟨i + 1, ⟨by omega⟩, by go_num, HB1, ⟨by rw [ht]; exact HR1.out⟩⟩
    · have hil : nodes.length ≤ i := by omega
      have hie : i = nodes.length := by have := HI.out; omega
      have hdec : decide (i < nodes.length) = false := by simp; omega
      have hdec2 : decide ((i : Int) < (nodes.length : Int)) = false := by simp; omega
      have HP : Aside (IntsPost w (topsOf nodes k nodes.length) (.returned u5) wr) := ⟨_, rfl, by rw [← hie]; exact HR1.out, HB1.out⟩
      clear HI HR1 HB1 hil hie hi
      go_wp2
      go_ret
      exact HP.out
end Go.Proofs.Ytikgdhmnnnicmaa
