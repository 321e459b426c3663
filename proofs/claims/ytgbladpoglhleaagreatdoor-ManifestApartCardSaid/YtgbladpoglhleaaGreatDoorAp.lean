/- What is owned: with another generation, with more shards; and scanning for it among the names. Pure laws. No condition. -/
import Derived.Test.YtgbladpoglhleaaGreatDoorPz
namespace Go.Proofs.YtgbladpoglhleaaGreatDoor
open Go.RowKit Go.Lib
theorem owned_ours {names : List (List UInt8)} {l : List UInt8} {g s : Int} (h : ownedF names l g s = true) : oursF l = true := by
  unfold ownedF at h
  rw [Bool.and_eq_true] at h
  exact h.1
theorem owned_mono {names : List (List UInt8)} {l : List UInt8} {g s s' : Int} (hs : s ≤ s') (h : ownedF names l g s = true) : ownedF names l g s' = true := by
  unfold ownedF at h ⊢
  rw [Bool.and_eq_true] at h ⊢
  refine ⟨h.1, ?_⟩
  have h2 := h.2
  unfold ownedW at h2 ⊢
  split
  · rename_i e; rw [if_pos e] at h2; exact h2
  · rename_i e
    rw [if_neg e] at h2
    split
    · rfl
    · rename_i e1
      rw [if_neg e1] at h2
      split
      · rename_i e2; rw [if_pos e2] at h2; cases h2
      · rename_i e2
        rw [if_neg e2] at h2
        split
        · rename_i e3
          rw [if_pos e3] at h2
          have := of_decide_eq_true h2
          exact decide_eq_true (by omega)
        · rename_i e3
          rw [if_neg e3] at h2
          split
          · rename_i e4
            rw [if_pos e4, Bool.and_eq_true] at h2
            have := of_decide_eq_true h2.2
            rw [Bool.and_eq_true]
            exact ⟨h2.1, decide_eq_true (by omega)⟩
          · rfl
theorem owned_gen {names : List (List UInt8)} {l : List UInt8} {g h s t : Int} (h1 : ownedF names l g s = true) (h2 : ownedF names l h t = true) (hne : l ≠ bManifest) : g = h := by
  have key : ∀ g s, ownedF names l g s = true → numZ ((split46 l).getD 1 []) = g := by
    intro g s hx
    unfold ownedF at hx
    rw [Bool.and_eq_true] at hx
    obtain ⟨ho, hx⟩ := hx
    unfold ownedW at hx
    split at hx
    · cases hx
    · split at hx
      · rename_i e
        exfalso
        apply hne
        unfold oursF at ho
        rw [e] at ho
        unfold oursW at ho
        rw [if_pos rfl] at ho
        have hj := join_split l
        match hs : split46 l, beq_iff_eq.1 ho with
        | [p], _ =>
          rw [hs] at hj e
          simp only [List.headD_cons] at e
          rw [← hj, e]; rfl
      · split at hx
        · cases hx
        · rename_i e
          exact Classical.not_not.1 e
  rw [← key g s h1, ← key h t h2]
theorem filter_le {α : Type} {p q : α → Bool} (h : ∀ x, p x = true → q x = true) : ∀ l : List α, (l.filter p).length ≤ (l.filter q).length
  | [] => Nat.le_refl _
  | x :: l => by
    have ih := filter_le h l
    cases hp : p x with
    | true => rw [List.filter_cons_of_pos hp, List.filter_cons_of_pos (h x hp)]; simp; exact ih
    | false =>
      rw [List.filter_cons_of_neg (by simp [hp])]
      cases hq : q x with
      | true => rw [List.filter_cons_of_pos hq]; simp; omega
      | false => rw [List.filter_cons_of_neg (by simp [hq])]; exact ih
/-! ### scanning for a row within a row -/
theorem scan_start {α : Type} (p : α → Bool) (l : List α) : (l.filter p).drop 0 |>.Sublist (l.drop 0) := List.filter_sublist
theorem scan_skip {α : Type} {x y : α} {l L : List α} (h : (x :: l).Sublist (y :: L)) (hne : y ≠ x) : (x :: l).Sublist L := by
  cases h with
  | cons _ h => exact h
  | cons_cons _ h => exact absurd rfl hne
theorem scan_hit {α : Type} {x : α} {l L : List α} (h : (x :: l).Sublist (x :: L)) : l.Sublist L := by
  cases h with
  | cons _ h => exact (List.sublist_cons_self x l).trans h
  | cons_cons _ h => exact h
theorem scan_skip_at {α : Type} {a N : List α} {i k : Nat} (hi : i < a.length) (hk : k < N.length) (h : (a.drop i).Sublist (N.drop k)) (hne : N[k] ≠ a[i]) : (a.drop i).Sublist (N.drop (k + 1)) := by
  rw [List.drop_eq_getElem_cons hi, List.drop_eq_getElem_cons hk] at h
  rw [List.drop_eq_getElem_cons hi]
  exact scan_skip h hne
theorem scan_hit_at {α : Type} {a N : List α} {i k : Nat} (hi : i < a.length) (hk : k < N.length) (h : (a.drop i).Sublist (N.drop k)) (he : N[k] = a[i]) : (a.drop (i + 1)).Sublist (N.drop (k + 1)) := by
  rw [List.drop_eq_getElem_cons hi, List.drop_eq_getElem_cons hk, he] at h
  exact scan_hit h
theorem scan_room {α : Type} {a N : List α} {i k : Nat} (hi : i < a.length) (h : (a.drop i).Sublist (N.drop k)) : k < N.length := by
  rcases Nat.lt_or_ge k N.length with hk | hk
  · exact hk
  · rw [List.drop_eq_nil_of_le hk, List.drop_eq_getElem_cons hi] at h
    cases h
theorem stands_mem {l : List (List UInt8)} {x : List UInt8} (h : x ∈ l) : standsB l x = true := by
  unfold standsB
  rw [List.any_eq_true]
  exact ⟨x, h, decide_eq_true rfl⟩
theorem stands_not {l : List (List UInt8)} {x : List UInt8} (h : x ∉ l) : standsB l x = false := by
  unfold standsB
  rw [List.any_eq_false]
  intro y hy
  simp only [decide_eq_true_eq]
  exact fun e => h (e ▸ hy)
end Go.Proofs.YtgbladpoglhleaaGreatDoor
