/- nest.Forest walked: every graph, every list of numbers that may be. No condition. -/
import Derived.Test.YtikgdhmnnnicmaaDoorF
import Derived.Test.YtikgdhmnnnicmaaDoorQ
namespace Go.Proofs.YtikgdhmnnnicmaaDoor
open Go.RowKit
theorem rootF_le {k : Int} {least size : List Int} {a b : List Node × List (List Int)} {r : Int} (h : rootF k least size a r = some b) : b.1.length ≤ 16777216 := by
  unfold rootF at h
  obtain ⟨o, ho, h⟩ := Option.bind_eq_some_iff.1 h
  split at h
  · cases h; simp; omega
  · cases h
theorem rootsF_le {k : Int} {least size : List Int} {rs : List Int} : ∀ {a b : List Node × List (List Int)}, rootsF k least size a rs = some b → a.1.length ≤ 16777216 → b.1.length ≤ 16777216 := by
  induction rs with
  | nil => intro a b h ha; simp only [rootsF, List.foldlM_nil] at h; cases h; exact ha
  | cons r rs ih =>
    intro a b h ha
    simp only [rootsF, List.foldlM_cons] at h
    obtain ⟨c, hc, h⟩ := Option.bind_eq_some_iff.1 h
    exact ih h (rootF_le hc)
theorem levelF_le {K : Nat} {adj : List (List Int)} {cs : List Int} {a b : UF × List Node} {k : Int} (h : levelF K adj cs a k = some b) (ha : a.2.length ≤ 16777216) : b.2.length ≤ 16777216 := by
  unfold levelF at h
  obtain ⟨S1, _, h⟩ := Option.bind_eq_some_iff.1 h
  obtain ⟨q, _, h⟩ := Option.bind_eq_some_iff.1 h
  split at h
  · obtain ⟨r, hr, rfl⟩ := Option.map_eq_some_iff.1 h
    exact rootsF_le hr ha
  · cases h
def ClonePost (w : World) (out : List Node) (e : Ending) (w' : World) : Prop := ∃ v, e = .returned v ∧ w'.ownsRow w.heap.size 27 4 v out.length (nodeCells out) ∧ Below w.heap.size w w'
theorem clone_node {w : World} {B : Nat} {ov : Value} {out : List Node} (ho : w.ownsRow B 27 4 ov out.length (nodeCells out)) (hl : out.length ≤ 16777216) :
    Calls Tryd.prog 34 #[ov] w (ClonePost w out) := by
  rcases ho.2 with ⟨rfl, hn⟩ | ⟨g, cap, cur, rfl, hgB, hg, h1, h2, h3, h4⟩
  · obtain rfl := List.eq_nil_of_length_eq_zero hn
    refine (AnyE.slices_Clone_nil Tryd.cloneNode 0 0 w).mono ?_
    rintro e w' ⟨rfl, rfl⟩
    exact ⟨_, rfl, World.ownsRow_nil _ _ _ _, Below.refl _ _⟩
  · obtain ⟨i0, hi0, hz0, hz1, hz2⟩ := info_parts Tryd.info42
    have hone : ∀ u ∈ nodeCells out, u.oneCell' = true := fun u hu => by
      unfold nodeCells at hu
      obtain ⟨x, _, hu⟩ := List.mem_flatMap.1 hu
      simp at hu
      rcases hu with rfl | rfl | rfl | rfl <;> rfl
    refine (AnyE.slices_Clone Tryd.cloneNode i0 _ 4 32 hi0 hz0 hz1 hz2 rfl (by decide) (fun w => by kernel_rfl) g 0 out.length cap (nodeCells out) w (nodeCells_length out) (by simp only [maxLen]; omega) (by omega)
      (fun j u hj => by have := ho.cells (g := g) rfl j u hj; rwa [addr_add] at this) hone).mono ?_
    rintro e w' ⟨v, rfl, h5, _, h6⟩
    exact ⟨v, rfl, h5, h6⟩
end Go.Proofs.YtikgdhmnnnicmaaDoor
