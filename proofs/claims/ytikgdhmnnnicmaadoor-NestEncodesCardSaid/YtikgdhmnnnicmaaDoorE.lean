/- The document's example: nest.Forest's mirror reckoned. No condition. -/
import Derived.Test.YtikgdhmnnnicmaaDoorV
namespace Go.Proofs.YtikgdhmnnnicmaaDoor
theorem sorted_is {l k : List Int} (hp : l.Perm k) (hs : k.Pairwise fun a b => decide (a ≤ b) = true) : sorted l = k := (sorted_perm2 hp).trans (List.mergeSort_of_pairwise hs)
theorem sortBy_is {k least : List Int} (hs : k.Pairwise fun a b => decide (least.getD a.toNat 0 ≤ least.getD b.toNat 0) = true) : sortBy least k = k := List.mergeSort_of_pairwise hs
def eightPs : List Pair := [⟨0, 1⟩, ⟨0, 2⟩, ⟨1, 2⟩, ⟨2, 3⟩, ⟨3, 4⟩, ⟨4, 5⟩, ⟨4, 6⟩, ⟨5, 6⟩]
def eightCs : List Int := [2, 2, 2, 1, 2, 2, 2, 0]
def eightAdj : List (List Int) := [[1, 2], [0, 2], [0, 1, 3], [2, 4], [3, 5, 6], [4, 6], [4, 5], []]
def eightOut : List Node := [⟨2, 0, 3, 2⟩, ⟨2, 4, 3, 2⟩, ⟨1, 0, 7, -1⟩, ⟨0, 7, 1, -1⟩]
theorem levels_eight : (levelsOf eightCs).reverse = [2, 1, 0] := by
  unfold levelsOf
  rw [show eightCs.foldl addKey [] = [2, 1, 0] by decide +kernel, sorted_is (k := [0, 1, 2]) (by decide) (by decide)]
  rfl
theorem levelF_is {K : Nat} {adj : List (List Int)} {cs : List Int} {a : UF × List Node} {k : Int} {S1 S2 : UF} {ks : List Int} {r : List Node × List (List Int)} (h1 : takeF K adj a.1 (grp cs k) = some S1) (h2 : partsF K ([], S1) (grp cs k) = some (ks, S2)) (h3 : lvOk ks S2.least)
    (h4 : ks.Pairwise fun a b => decide (S2.least.getD a.toNat 0 ≤ S2.least.getD b.toNat 0) = true) (h5 : rootsF k S2.least S2.size (a.2, S2.tops) ks = some r) : levelF K adj cs a k = some ({ S2 with tops := r.2 }, r.1) := by
  unfold levelF
  simp only [h1, Option.bind_some, h2, if_pos h3, sortBy_is h4, h5, Option.map_some]
set_option maxRecDepth 100000 in
theorem forest_eight : forestF 20 eightAdj eightCs = some eightOut := by
  unfold forestF
  rw [levels_eight]
  have e2 : levelF 20 eightAdj eightCs (startF eightCs.length, []) 2 = some (⟨[0, 0, 0, -1, 4, 4, 4, -1], [0, 1, 2, 0, 4, 5, 6, 0], [3, 1, 1, 0, 3, 1, 1, 0], [[0], [], [], [], [1], [], [], []]⟩, [⟨2, 0, 3, -1⟩, ⟨2, 4, 3, -1⟩]) :=
    levelF_is (S1 := ⟨[0, 0, 0, -1, 4, 4, 4, -1], [0, 1, 2, 0, 4, 5, 6, 0], [3, 1, 1, 0, 3, 1, 1, 0], [[], [], [], [], [], [], [], []]⟩) (ks := [0, 4]) (S2 := ⟨[0, 0, 0, -1, 4, 4, 4, -1], [0, 1, 2, 0, 4, 5, 6, 0], [3, 1, 1, 0, 3, 1, 1, 0], [[], [], [], [], [], [], [], []]⟩) (r := ([⟨2, 0, 3, -1⟩, ⟨2, 4, 3, -1⟩], [[0], [], [], [], [1], [], [], []])) (by kernel_rfl) (by kernel_rfl) (by decide +kernel) (by decide +kernel) (by kernel_rfl)
  have e1 : levelF 20 eightAdj eightCs (⟨[0, 0, 0, -1, 4, 4, 4, -1], [0, 1, 2, 0, 4, 5, 6, 0], [3, 1, 1, 0, 3, 1, 1, 0], [[0], [], [], [], [1], [], [], []]⟩, [⟨2, 0, 3, -1⟩, ⟨2, 4, 3, -1⟩]) 1 = some (⟨[0, 0, 0, 0, 0, 4, 4, -1], [0, 1, 2, 3, 4, 5, 6, 0], [7, 1, 1, 1, 3, 1, 1, 0], [[2], [], [], [], [1], [], [], []]⟩, [⟨2, 0, 3, 2⟩, ⟨2, 4, 3, 2⟩, ⟨1, 0, 7, -1⟩]) :=
    levelF_is (S1 := ⟨[0, 0, 0, 0, 0, 4, 4, -1], [0, 1, 2, 3, 4, 5, 6, 0], [7, 1, 1, 1, 3, 1, 1, 0], [[0, 1], [], [], [], [1], [], [], []]⟩) (ks := [0]) (S2 := ⟨[0, 0, 0, 0, 0, 4, 4, -1], [0, 1, 2, 3, 4, 5, 6, 0], [7, 1, 1, 1, 3, 1, 1, 0], [[0, 1], [], [], [], [1], [], [], []]⟩) (r := ([⟨2, 0, 3, 2⟩, ⟨2, 4, 3, 2⟩, ⟨1, 0, 7, -1⟩], [[2], [], [], [], [1], [], [], []])) (by kernel_rfl) (by kernel_rfl) (by decide +kernel) (by decide +kernel) (by kernel_rfl)
  have e0 : levelF 20 eightAdj eightCs (⟨[0, 0, 0, 0, 0, 4, 4, -1], [0, 1, 2, 3, 4, 5, 6, 0], [7, 1, 1, 1, 3, 1, 1, 0], [[2], [], [], [], [1], [], [], []]⟩, [⟨2, 0, 3, 2⟩, ⟨2, 4, 3, 2⟩, ⟨1, 0, 7, -1⟩]) 0 = some (⟨[0, 0, 0, 0, 0, 4, 4, 7], [0, 1, 2, 3, 4, 5, 6, 7], [7, 1, 1, 1, 3, 1, 1, 1], [[2], [], [], [], [1], [], [], [3]]⟩, eightOut) :=
    levelF_is (S1 := ⟨[0, 0, 0, 0, 0, 4, 4, 7], [0, 1, 2, 3, 4, 5, 6, 7], [7, 1, 1, 1, 3, 1, 1, 1], [[2], [], [], [], [1], [], [], []]⟩) (ks := [7]) (S2 := ⟨[0, 0, 0, 0, 0, 4, 4, 7], [0, 1, 2, 3, 4, 5, 6, 7], [7, 1, 1, 1, 3, 1, 1, 1], [[2], [], [], [], [1], [], [], []]⟩) (r := (eightOut, [[2], [], [], [], [1], [], [], [3]])) (by kernel_rfl) (by kernel_rfl) (by decide +kernel) (by decide +kernel) (by kernel_rfl)
  simp only [levelsF, List.foldlM_cons, List.foldlM_nil, e2, e1, e0, Option.bind_eq_bind, Option.bind_some, Option.pure_def, Option.map_some]
theorem adj_eight : adjOf 8 eightPs = eightAdj := by
  unfold adjOf
  rw [show rowsOf 8 ((edgesOf eightPs).map (·.1)) = [[1, 2], [0, 2], [0, 1, 3], [2, 4], [3, 5, 6], [4, 6], [4, 5], []] by decide +kernel]
  simp only [List.map_cons, List.map_nil]
  rw [sorted_is (l := [1, 2]) (List.Perm.refl _) (by decide), sorted_is (l := [0, 2]) (List.Perm.refl _) (by decide), sorted_is (l := [0, 1, 3]) (List.Perm.refl _) (by decide), sorted_is (l := [2, 4]) (List.Perm.refl _) (by decide), sorted_is (l := [3, 5, 6]) (List.Perm.refl _) (by decide), sorted_is (l := [4, 6]) (List.Perm.refl _) (by decide), sorted_is (l := [4, 5]) (List.Perm.refl _) (by decide), sorted_is (l := []) (List.Perm.refl _) (by decide)]
  rfl
end Go.Proofs.YtikgdhmnnnicmaaDoor
