/- Which lists are orders, as the loops that mark what was met find it. No condition. -/
import Derived.Test.YtjncnppbaldmiaaGreatDoorOe
namespace Go.Proofs.YtjncnppbaldmiaaGreatDoor
/-- What the marks are behind i numbers. -/
def seenRow (l : List Int) (i : Nat) : List Value := (List.range l.length).map fun (j : Nat) => .bool (decide ((j : Int) ∈ l.take i))
theorem seenRow_length (l : List Int) (i : Nat) : (seenRow l i).length = l.length := by simp [seenRow]
theorem seenRow_zero (l : List Int) : seenRow l 0 = List.replicate l.length (.bool false) := by
  refine List.ext_getElem (by simp [seenRow]) fun j h1 h2 => ?_
  simp [seenRow]
theorem seenRow_at {l : List Int} {i j : Nat} (hj : j < l.length) : (seenRow l i)[j]'(by rw [seenRow_length]; exact hj) = .bool (decide ((j : Int) ∈ l.take i)) := by simp [seenRow]
theorem seenRow_step {l : List Int} {i j : Nat} (hi : i < l.length) (he : l[i] = (j : Int)) : (seenRow l i).set j (.bool true) = seenRow l (i + 1) := by
  refine List.ext_getElem (by simp [seenRow]) fun k h1 h2 => ?_
  have hk : k < l.length := by simpa [seenRow] using h2
  rw [List.getElem_set, seenRow_at hk, seenRow_at hk, List.take_succ_eq_append_getElem hi]
  by_cases e : j = k
  · subst e
    rw [if_pos rfl, he]
    simp
  · rw [if_neg e, he]
    have : ¬ ((k : Int) = (j : Int)) := by omega
    simp [this]
/-- Behind i numbers: each is in range, none came twice. -/
structure PermAt (l : List Int) (i : Nat) : Prop where
  nums : ∀ d ∈ l.take i, 0 ≤ d ∧ d < (l.length : Int)
  nd : (l.take i).Nodup
theorem PermAt.zero (l : List Int) : PermAt l 0 := ⟨by simp, by simp⟩
theorem PermAt.step {l : List Int} {i : Nat} (h : PermAt l i) (hi : i < l.length) (h0 : 0 ≤ l[i]) (h1 : l[i] < (l.length : Int)) (hn : ¬ l[i] ∈ l.take i) : PermAt l (i + 1) := by
  refine ⟨fun d hd => ?_, ?_⟩
  · rw [List.take_succ_eq_append_getElem hi, List.mem_append, List.mem_singleton] at hd
    rcases hd with hd | rfl
    · exact h.nums d hd
    · exact ⟨h0, h1⟩
  · rw [List.take_succ_eq_append_getElem hi, List.nodup_append]
    refine ⟨h.nd, by simp, fun a ha b hb e => ?_⟩
    rw [List.mem_singleton] at hb
    subst hb e
    exact hn ha
theorem PermAt.all {l : List Int} (h : PermAt l l.length) : permB l = true := by
  have hn := h.nums
  have hd := h.nd
  rw [List.take_length] at hn hd
  unfold permB
  rw [Bool.and_eq_true, List.all_eq_true]
  exact ⟨fun d q => decide_eq_true (hn d q), decide_eq_true hd⟩
theorem perm_range {l : List Int} {i : Nat} (hi : i < l.length) (h : l[i] < 0 ∨ (l.length : Int) ≤ l[i]) : permB l = false := by
  refine Bool.eq_false_iff.2 fun e => ?_
  have := permB_nums e l[i] (List.getElem_mem hi)
  omega
theorem perm_twice {l : List Int} {i : Nat} (hi : i < l.length) (h : l[i] ∈ l.take i) : permB l = false := by
  refine Bool.eq_false_iff.2 fun e => ?_
  unfold permB at e
  rw [Bool.and_eq_true] at e
  have hd := of_decide_eq_true e.2
  rw [← List.take_append_drop i l, List.nodup_append] at hd
  refine hd.2.2 l[i] h l[i] ?_ rfl
  rw [List.drop_eq_getElem_cons hi]
  exact List.mem_cons_self
end Go.Proofs.YtjncnppbaldmiaaGreatDoor
