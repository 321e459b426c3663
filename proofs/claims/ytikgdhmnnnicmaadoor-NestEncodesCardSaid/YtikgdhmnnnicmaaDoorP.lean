/- nest.Level and nest.Up, the program's and the reference's. No condition. -/
import Derived.Test.YtikgdhmnnnicmaaDoorK
namespace Go.Proofs.YtikgdhmnnnicmaaDoor
open Go.RowKit
/-- Is a node a part of level k? -/
def isTop (nodes : List Node) (k : Int) (x : Node) : Bool := !(decide (x.K < k) || decide (x.Parent < -1) || decide ((nodes.length : Int) ≤ x.Parent) || (decide (0 ≤ x.Parent) && decide (k ≤ (nodes.getD x.Parent.toNat ⟨0, 0, 0, 0⟩).K)))
/-- The places of those among the first i. -/
def topsOf (nodes : List Node) (k : Int) (i : Nat) : List Int := ((nodes.take i).zipIdx.filter fun p => isTop nodes k p.1).map fun p => (p.2 : Int)
theorem topsOf_succ {nodes : List Node} {k : Int} {i : Nat} (hi : i < nodes.length) : topsOf nodes k (i + 1) = if isTop nodes k nodes[i] then topsOf nodes k i ++ [(i : Int)] else topsOf nodes k i := by
  unfold topsOf
  rw [List.take_add_one, List.getElem?_eq_getElem hi, Option.toList_some, List.zipIdx_append, List.filter_append, List.map_append]
  have : (nodes.take i).length = i := by simp; omega
  by_cases h : isTop nodes k nodes[i] = true <;> simp [h, this]
theorem topsOf_length {nodes : List Node} {k : Int} {i : Nat} : (topsOf nodes k i).length ≤ i := by
  unfold topsOf
  rw [List.length_map]
  exact Nat.le_trans (List.length_filter_le _ _) (by simp; omega)
def IntsPost (w : World) (xs : List Int) (e : Ending) (w' : World) : Prop := ∃ v, e = .returned v ∧ w'.ownsRow w.heap.size 3 1 v xs.length (ints xs) ∧ Below w.heap.size w w'
set_option maxHeartbeats 4000000 in
set_option maxRecDepth 100000 in
theorem Level_any {w : World} {ok : Nat → Prop} {v : Value} {nodes : List Node} {k : Int} (hs : Sl knode w ok v nodes) (hl : nodes.length ≤ 16777216) : Calls Tryd.prog 18 #[v, .int .i64 k] w (IntsPost w (topsOf nodes k nodes.length)) := by
  obtain ⟨A, c, rfl, hc, hm⟩ := hs.slice
  have HS := Aside.mk hs
  have HR0 : Aside (w.ownsRow w.heap.size 3 1 (.slice none 0 0) (topsOf nodes k 0).length (ints (topsOf nodes k 0))) := ⟨World.ownsRow_nil _ _ _ _⟩
  clear hs
  go_enter Tryd.func18, Tryd.ntmps18
  go_wp2
  go_loopg [5, 10] nodes.length (fun kq v5 ix wr => ∃ (i : Nat), Aside (i + kq = nodes.length) ∧ ix = .int .i64 i ∧ Aside (Below w.heap.size w wr) ∧ Aside (wr.ownsRow w.heap.size 3 1 v5 (topsOf nodes k i).length (ints (topsOf nodes k i))))
  case atStart => exact ⟨0, ⟨by omega⟩, rfl, ⟨Below.refl _ _⟩, HR0⟩
  case round =>
    clear HR0
    obtain ⟨i, HI, rfl, HB, HR⟩ := hrel
    by_cases hi : i < nodes.length
    · obtain ⟨b, o, e, k0, k1, k2, k3⟩ := (HS.out.below HB.out).node i hi
      cases e
      have HT := Aside.mk (topsOf_succ (k := k) hi)
      generalize nodes[i] = x at *
      go_upto_region 5 with (fail)
      have q0 : (wr.alloc (.cells #[.int .i64 x.K, .int .i64 x.Least, .int .i64 x.Size, .int .i64 x.Parent] 27)).cell? ⟨wr.heap.size, 0, none⟩ = some (.int .i64 x.K) := cell_blk (heap_alloc_new _ _) rfl
      have q3 : (wr.alloc (.cells #[.int .i64 x.K, .int .i64 x.Least, .int .i64 x.Size, .int .i64 x.Parent] 27)).cell? ⟨wr.heap.size, 3, none⟩ = some (.int .i64 x.Parent) := cell_blk (heap_alloc_new _ _) rfl
      have HB1 : Aside (Below w.heap.size w (wr.alloc (.cells #[.int .i64 x.K, .int .i64 x.Least, .int .i64 x.Size, .int .i64 x.Parent] 27))) := ⟨HB.out.alloc HB.out.size _⟩
      have HR1 : Aside ((wr.alloc (.cells #[.int .i64 x.K, .int .i64 x.Least, .int .i64 x.Size, .int .i64 x.Parent] 27)).ownsRow w.heap.size 3 1 u5 (topsOf nodes k i).length (ints (topsOf nodes k i))) := ⟨HR.out.alloc _⟩
      clear k0 k1 k2 k3 HB HR
      generalize wr.alloc (.cells #[.int .i64 x.K, .int .i64 x.Least, .int .i64 x.Size, .int .i64 x.Parent] 27) = W1 at *
      by_cases c1 : x.K < k
      · have d1 : decide (x.K < k) = true := decide_eq_true c1
        have ht := HT.out
        rw [if_neg (by simp [isTop, d1])] at ht
        clear c1
        go_wp2
        go_roundg (nodes.length - (i + 1))
        case measure => have := HI.out; omega
        case rel => exact ⟨i + 1, ⟨by omega⟩, by go_num, HB1, ⟨by rw [ht]; exact HR1.out⟩⟩
      · have d1 : decide (x.K < k) = false := decide_eq_false c1
        clear c1
        by_cases c2 : x.Parent < -1
        · have d2 : decide (x.Parent < -1) = true := decide_eq_true c2
          clear c2
          have ht := HT.out
          rw [if_neg (by simp [isTop, d2])] at ht
          clear HT
          go_wp2
          go_roundg (nodes.length - (i + 1))
          case measure => have := HI.out; omega
          case rel => exact ⟨i + 1, ⟨by omega⟩, by go_num, HB1, ⟨by rw [ht]; exact HR1.out⟩⟩
        · have d2 : decide (x.Parent < -1) = false := decide_eq_false c2
          by_cases c3 : (nodes.length : Int) ≤ x.Parent
          · have d3 : decide ((nodes.length : Int) ≤ x.Parent) = true := decide_eq_true c3
            clear c3 c2
            have ht := HT.out
            rw [if_neg (by simp [isTop, d3])] at ht
            clear HT
            go_wp2
            go_roundg (nodes.length - (i + 1))
            case measure => have := HI.out; omega
            case rel => exact ⟨i + 1, ⟨by omega⟩, by go_num, HB1, ⟨by rw [ht]; exact HR1.out⟩⟩
          · have d3 : decide ((nodes.length : Int) ≤ x.Parent) = false := decide_eq_false c3
            by_cases c4 : 0 ≤ x.Parent
            · obtain ⟨j, hj⟩ := Int.eq_ofNat_of_zero_le c4
              have d4 : decide (0 ≤ x.Parent) = true := decide_eq_true c4
              have hjl : j < nodes.length := by omega
              obtain ⟨b2, o2, e, y0, _, _, _⟩ := (HS.out.below HB1.out).node j hjl
              cases e
              have hgd : nodes.getD x.Parent.toNat ⟨0, 0, 0, 0⟩ = nodes[j] := by rw [hj, Int.toNat_natCast, List.getD_eq_getElem?_getD, List.getElem?_eq_getElem hjl]; rfl
              by_cases c5 : k ≤ nodes[j].K
              · have d5 : decide (k ≤ nodes[j].K) = true := decide_eq_true c5
                have ht := HT.out
                rw [if_neg (by simp only [isTop, d1, d2, d3, d4, hgd, d5]; simp)] at ht
                rw [hj] at q3 d2 d3 d4
                clear HT hgd c2 c3 c4 c5
                generalize nodes[j] = y at *
                go_wp2
                go_roundg (nodes.length - (i + 1))
                case measure => have := HI.out; omega
                case rel => exact ⟨i + 1, ⟨by omega⟩, by go_num, HB1, ⟨by rw [ht]; exact HR1.out⟩⟩
              · have d5 : decide (k ≤ nodes[j].K) = false := decide_eq_false c5
                have ht := HT.out
                rw [if_pos (by simp only [isTop, d1, d2, d3, d4, hgd, d5]; simp)] at ht
                rw [hj] at q3 d2 d3 d4
                clear hgd c2 c3 c4 c5
                generalize nodes[j] = y at *
                have hcl := HR1.out
                have hll := topsOf_length (nodes := nodes) (k := k) (i := i)
                clear HT
                go_wp2_with (at_builtin; go_must (refine app_one w.heap.size rfl _ _ 48 3 (.int .i64 0) 1 8 rfl Tryd.underlying48 Tryd.info3 rfl (by decide) (by decide) u5 (topsOf nodes k i).length _ [.int .i64 (i : Int)] rfl rfl rfl (by simp [Value.oneCell']) HR1.out HB1.out.size (by omega) ?_; intro v1 w6 hown hg6 hat))
                go_roundg (nodes.length - (i + 1))
                case measure => have := HI.out; omega
                case rel => exact ⟨i + 1, ⟨by omega⟩, by go_num, ⟨HB1.out.grown hg6 HB1.out.size fun q e => (HR1.out.lt q e).1⟩, ⟨by rw [ht]; simpa [ints] using hown⟩⟩
            · have d4 : decide (0 ≤ x.Parent) = false := decide_eq_false c4
              have ht := HT.out
              rw [if_pos (by simp [isTop, d1, d2, d3, d4])] at ht
              clear c2 c3 c4
              have hcl := HR1.out
              have hll := topsOf_length (nodes := nodes) (k := k) (i := i)
              clear HT
              go_wp2_with (at_builtin; go_must (refine app_one w.heap.size rfl _ _ 48 3 (.int .i64 0) 1 8 rfl Tryd.underlying48 Tryd.info3 rfl (by decide) (by decide) u5 (topsOf nodes k i).length _ [.int .i64 (i : Int)] rfl rfl rfl (by simp [Value.oneCell']) HR1.out HB1.out.size (by omega) ?_; intro v1 w6 hown hg6 hat))
              go_roundg (nodes.length - (i + 1))
              case measure => have := HI.out; omega
              case rel => exact ⟨i + 1, ⟨by omega⟩, by go_num, ⟨HB1.out.grown hg6 HB1.out.size fun q e => (HR1.out.lt q e).1⟩, ⟨by rw [ht]; simpa [ints] using hown⟩⟩
    · have hil : nodes.length ≤ i := by omega
      have hie : i = nodes.length := by have := HI.out; omega
      have hdec : decide (i < nodes.length) = false := by simp; omega
      have hdec2 : decide ((i : Int) < (nodes.length : Int)) = false := by simp; omega
      have HP : Aside (IntsPost w (topsOf nodes k nodes.length) (.returned u5) wr) := ⟨_, rfl, by rw [← hie]; exact HR.out, HB.out⟩
      clear HI HR HB hil hie hi
      go_wp2
      go_ret
      exact HP.out
end Go.Proofs.YtikgdhmnnnicmaaDoor
