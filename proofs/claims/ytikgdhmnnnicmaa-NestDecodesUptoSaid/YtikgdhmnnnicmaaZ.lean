/- The lists of neighbours that pairs make, by graph.Make and by pithfix.To; both Forests of them are one nest; the reference's levels. No condition. -/
import Derived.Test.YtikgdhmnnnicmaaD
import Derived.Test.Ytikgdhmnnnicmaa8
import Derived.Test.Ytikgdhmnnnicmaa1
import Derived.Test.YtikgdhmnnnicmaaV
namespace Go.Proofs.Ytikgdhmnnnicmaa
open Go.RowKit Go.IntWalk
/-- Do the pairs join v and u? -/
def edgeB (ps : List Pair) (v u : Nat) : Bool := ps.any fun p => decide (p.U ≠ p.V) && (decide (p.U = (v : Int) ∧ p.V = (u : Int)) || decide (p.U = (u : Int) ∧ p.V = (v : Int)))
/-- All pairs among n vertices. -/
def among (n : Nat) (ps : List Pair) : Prop := ∀ p ∈ ps, 0 ≤ p.U ∧ p.U < n ∧ 0 ≤ p.V ∧ p.V < n
theorem edgeB_iff {ps : List Pair} {v u : Nat} : edgeB ps v u = true ↔ ∃ p ∈ ps, p.U ≠ p.V ∧ ((p.U = (v : Int) ∧ p.V = (u : Int)) ∨ (p.U = (u : Int) ∧ p.V = (v : Int))) := by
  unfold edgeB
  simp only [List.any_eq_true, Bool.and_eq_true, Bool.or_eq_true, decide_eq_true_eq]
theorem edgeB_symm {ps : List Pair} {v u : Nat} (h : edgeB ps v u = true) : edgeB ps u v = true := by
  obtain ⟨p, h1, h2, h3⟩ := edgeB_iff.1 h
  exact edgeB_iff.2 ⟨p, h1, h2, h3.symm⟩
theorem edgeB_lt {ps : List Pair} {n v u : Nat} (ha : among n ps) (h : edgeB ps v u = true) : v < n ∧ u < n := by
  obtain ⟨p, h1, h2, h3⟩ := edgeB_iff.1 h
  have := ha p h1
  omega
theorem mem_mput_keys {m : List ((Int × Int) × Value)} {y x : Int × Int} {v : Value} : x ∈ (mput m y v).map (·.1) ↔ x ∈ m.map (·.1) ∨ x = y := by
  unfold mput
  split
  · rename_i h
    have : (m.map fun p => if p.1 = y then (y, v) else p).map (·.1) = m.map (·.1) := by
      rw [List.map_map]
      refine List.map_congr_left fun p _ => ?_
      simp only [Function.comp]
      split
      · rename_i e; exact e.symm
      · rfl
    rw [this]
    exact ⟨.inl, fun q => q.elim id fun e => e ▸ h⟩
  · simp
theorem mem_edges : ∀ (ps : List Pair) (m : List ((Int × Int) × Value)) (x : Int × Int), x ∈ (ps.foldl (fun m p => if p.U = p.V then m else mput m (edge p) (.bool true)) m).map (·.1) ↔ x ∈ m.map (·.1) ∨ ∃ p ∈ ps, p.U ≠ p.V ∧ x = edge p
  | [], m, x => by simp
  | p :: ps, m, x => by
    rw [List.foldl_cons, mem_edges ps]
    by_cases e : p.U = p.V
    · rw [if_pos e]
      constructor
      · rintro (h | ⟨q, h1, h2⟩)
        · exact .inl h
        · exact .inr ⟨q, by simp [h1], h2⟩
      · rintro (h | ⟨q, h1, h2, h3⟩)
        · exact .inl h
        · rcases List.mem_cons.1 h1 with rfl | h1
          · exact absurd e h2
          · exact .inr ⟨q, h1, h2, h3⟩
    · rw [if_neg e, mem_mput_keys]
      constructor
      · rintro ((h | h) | ⟨q, h1, h2⟩)
        · exact .inl h
        · exact .inr ⟨p, by simp, e, h⟩
        · exact .inr ⟨q, by simp [h1], h2⟩
      · rintro (h | ⟨q, h1, h2, h3⟩)
        · exact .inl (.inl h)
        · rcases List.mem_cons.1 h1 with rfl | h1
          · exact .inl (.inr h3)
          · exact .inr ⟨q, h1, h2, h3⟩
theorem mem_nbOf {E : List (Int × Int)} {v u : Int} : u ∈ nbOf E v ↔ ∃ e ∈ E, (e.1 = v ∧ e.2 = u) ∨ (e.1 ≠ v ∧ e.2 = v ∧ e.1 = u) := by
  unfold nbOf
  rw [List.mem_filterMap]
  refine exists_congr fun e => and_congr_right fun _ => ?_
  by_cases h1 : e.1 = v
  · simp [h1]
  · by_cases h2 : e.2 = v
    · simp [h1, h2]
    · simp [h1, h2]
theorem getD_map_range {α : Type} (n : Nat) (f : Nat → List α) (v : Nat) : ((List.range n).map f).getD v [] = if v < n then f v else [] := by
  rw [List.getD_eq_getElem?_getD, List.getElem?_map]
  by_cases h : v < n
  · rw [List.getElem?_range h, if_pos h]; rfl
  · rw [List.getElem?_eq_none (by simp; omega), if_neg h]; rfl
theorem mem_adjOf {n : Nat} {ps : List Pair} {v u : Nat} : (u : Int) ∈ (adjOf n ps).getD v [] ↔ v < n ∧ edgeB ps v u = true := by
  have e : adjOf n ps = (List.range n).map fun v : Nat => sorted (nbOf ((edgesOf ps).map (·.1)) (v : Int)) := by
    unfold adjOf rowsOf
    rw [List.map_map]
    rfl
  rw [e, getD_map_range]
  by_cases h : v < n
  · rw [if_pos h]
    have hp : (sorted (nbOf ((edgesOf ps).map (·.1)) (v : Int))).Perm (nbOf ((edgesOf ps).map (·.1)) (v : Int)) := List.mergeSort_perm _ _
    rw [hp.mem_iff, mem_nbOf, edgeB_iff]
    constructor
    · rintro ⟨x, h1, h2⟩
      rcases (mem_edges ps [] x).1 h1 with q | ⟨p, p1, p2, rfl⟩
      · simp at q
      · simp only [edge] at h2
        exact ⟨h, p, p1, p2, by omega⟩
    · rintro ⟨_, p, p1, p2, p3⟩
      refine ⟨edge p, (mem_edges ps [] _).2 (.inr ⟨p, p1, p2, rfl⟩), ?_⟩
      simp only [edge]
      omega
  · rw [if_neg h]
    simp [h]
theorem adj_of_mem {n : Nat} {ps : List Pair} {adj : List (List Int)} (ha : among n ps) (hl : adj.length = n) (hnat : ∀ l ∈ adj, ∀ x ∈ l, 0 ≤ x) (hm : ∀ v u : Nat, (u : Int) ∈ adj.getD v [] ↔ v < n ∧ edgeB ps v u = true) : Adj n adj where
  len := hl
  ok := fun l hl2 x hx => by
    obtain ⟨w, rfl⟩ := Int.eq_ofNat_of_zero_le (hnat l hl2 x hx)
    obtain ⟨v, hv, e⟩ := List.getElem_of_mem hl2
    have : (w : Int) ∈ adj.getD v [] := by
      rw [List.getD_eq_getElem?_getD, List.getElem?_eq_getElem hv]
      show (w : Int) ∈ adj[v]
      rw [e]; exact hx
    have := edgeB_lt ha ((hm v w).1 this).2
    omega
  sym := fun a b h => by
    have := (hm b a).1 h
    have h2 := edgeB_lt ha this.2
    exact (hm a b).2 ⟨h2.2, edgeB_symm this.2⟩
theorem adjOf_adj {n : Nat} {ps : List Pair} (ha : among n ps) : Adj n (adjOf n ps) := by
  refine adj_of_mem ha (by simp [adjOf, rowsOf]) (fun l hl x hx => ?_) fun v u => mem_adjOf
  unfold adjOf rowsOf at hl
  rw [List.map_map] at hl
  obtain ⟨v, _, rfl⟩ := List.mem_map.1 hl
  have hp : (sorted (nbOf ((edgesOf ps).map (·.1)) (v : Int))).Perm (nbOf ((edgesOf ps).map (·.1)) (v : Int)) := List.mergeSort_perm _ _
  obtain ⟨e, h1, h2⟩ := mem_nbOf.1 (hp.mem_iff.1 hx)
  rcases (mem_edges ps [] e).1 h1 with q | ⟨p, p1, p2, rfl⟩
  · simp at q
  · have := ha p p1
    simp only [edge] at h2
    omega
/-! ### pithfix.To's lists -/
structure MI (n : Nat) (bss : List (List Bool)) (f : Nat → Nat → Bool) : Prop where
  len : bss.length = n
  row : ∀ v, v < n → (bss.getD v []).length = 0 ∨ (bss.getD v []).length = n
  get : ∀ v u, v < n → u < n → (bss.getD v []).getD u false = f v u
theorem MI.mkRow {n : Nat} {bss : List (List Bool)} {f : Nat → Nat → Bool} (h : MI n bss f) {u : Nat} (hu : u < n) : MI n (mkRow n bss u) f ∧ ((Go.Proofs.Ytikgdhmnnnicmaa.mkRow n bss u).getD u []).length = n ∧ ∀ v, v < n → (bss.getD v []).length = n → ((Go.Proofs.Ytikgdhmnnnicmaa.mkRow n bss u).getD v []).length = n := by
  have hl := h.len
  unfold Go.Proofs.Ytikgdhmnnnicmaa.mkRow
  by_cases e : (bss.getD u []).length = 0
  · rw [if_pos e]
    have hg : ∀ v, (bss.set u (List.replicate n false)).getD v [] = if v = u then List.replicate n false else bss.getD v [] := fun v => by
      by_cases q : v = u
      · subst q; rw [getD_set_eq (by omega), if_pos rfl]
      · rw [getD_set_ne (Ne.symm q), if_neg q]
    refine ⟨⟨by simp [hl], fun v hv => ?_, fun v w hv hw => ?_⟩, by rw [hg, if_pos rfl]; simp, fun v hv hv2 => ?_⟩
    · rw [hg]; split
      · exact .inr (by simp)
      · exact h.row v hv
    · rw [hg]; split
      · rename_i q
        subst q
        have := h.get v w hv hw
        rw [List.length_eq_zero_iff.1 e] at this
        rw [← this, List.getD_eq_getElem?_getD, List.getElem?_replicate, if_pos hw]
        rfl
      · exact h.get v w hv hw
    · rw [hg]; split
      · simp
      · exact hv2
  · rw [if_neg e]
    exact ⟨h, (h.row u hu).resolve_left e, fun v _ q => q⟩
theorem MI.put {n : Nat} {bss : List (List Bool)} {f : Nat → Nat → Bool} (h : MI n bss f) {u v : Nat} (hu : u < n) (hv : v < n) (hl2 : (bss.getD u []).length = n) : MI n (putB bss u v) (fun a b => f a b || (decide (a = u ∧ b = v))) ∧ ∀ w, w < n → (bss.getD w []).length = n → ((putB bss u v).getD w []).length = n := by
  have hl := h.len
  have hg : ∀ w, (putB bss u v).getD w [] = if w = u then (bss.getD u []).set v true else bss.getD w [] := fun w => by
    unfold putB
    by_cases q : w = u
    · subst q; rw [getD_set_eq (by omega), if_pos rfl]
    · rw [getD_set_ne (Ne.symm q), if_neg q]
  refine ⟨⟨by simp [putB, hl], fun w hw => ?_, fun a b ha hb => ?_⟩, fun w hw q => ?_⟩
  · rw [hg]; split
    · exact .inr (by simpa using hl2)
    · exact h.row w hw
  · rw [hg]
    by_cases q : a = u
    · subst q
      rw [if_pos rfl]
      by_cases p : b = v
      · subst p
        rw [getD_set_eq (by omega)]; simp
      · rw [getD_set_ne (Ne.symm p), h.get a b ha hb]; simp [p]
    · rw [if_neg q, h.get a b ha hb]; simp [q]
  · rw [hg]; split
    · simpa using hl2
    · exact q
theorem MI.mark {n : Nat} {bss : List (List Bool)} {ps : List Pair} (h : MI n bss (edgeB ps)) {p : Pair} (hp : 0 ≤ p.U ∧ p.U < n ∧ 0 ≤ p.V ∧ p.V < n) : MI n (markF n bss p) (edgeB (ps ++ [p])) := by
  obtain ⟨U, hU⟩ := Int.eq_ofNat_of_zero_le hp.1
  obtain ⟨V, hV⟩ := Int.eq_ofNat_of_zero_le hp.2.2.1
  have hUn : U < n := by omega
  have hVn : V < n := by omega
  unfold markF
  by_cases e : p.U = p.V
  · rw [if_pos e]
    refine ⟨h.len, h.row, fun a b ha hb => ?_⟩
    rw [h.get a b ha hb]
    unfold edgeB
    rw [List.any_append]
    simp [e]
  · rw [if_neg e, hU, hV, Int.toNat_natCast, Int.toNat_natCast]
    obtain ⟨h1, h2, h3⟩ := h.mkRow hUn
    obtain ⟨h4, h5, h6⟩ := h1.mkRow hVn
    obtain ⟨h7, h8⟩ := h4.put hUn hVn (h6 U hUn h2)
    obtain ⟨h9, _⟩ := h7.put hVn hUn (h8 V hVn h5)
    refine ⟨h9.len, h9.row, fun a b ha hb => (h9.get a b ha hb).trans ?_⟩
    unfold edgeB
    rw [List.any_append]
    simp only [List.any_cons, List.any_nil, Bool.or_false, hU, hV]
    have hne : (U : Int) ≠ V := by omega
    have hne2 : U ≠ V := by omega
    generalize (ps.any fun p => decide (p.U ≠ p.V) && (decide (p.U = (a : Int) ∧ p.V = (b : Int)) || decide (p.U = (b : Int) ∧ p.V = (a : Int)))) = X
    have e1 : decide ((U : Int) = (a : Int) ∧ (V : Int) = (b : Int)) = decide (a = U ∧ b = V) := decide_eq_decide.2 (by omega)
    have e2 : decide ((U : Int) = (b : Int) ∧ (V : Int) = (a : Int)) = decide (a = V ∧ b = U) := decide_eq_decide.2 (by omega)
    rw [e1, e2]
    simp [hne, Bool.or_assoc]
theorem marks_ok {n : Nat} : ∀ (ps qs : List Pair) (bss : List (List Bool)) (_ : MI n bss (edgeB qs)) (_ : among n ps), MI n (ps.foldl (markF n) bss) (edgeB (qs ++ ps))
  | [], qs, bss, h, _ => by simpa using h
  | p :: ps, qs, bss, h, ha => by
    have := marks_ok ps (qs ++ [p]) (markF n bss p) (h.mark (ha p (by simp))) fun q hq => ha q (by simp [hq])
    rwa [List.append_assoc] at this
/-- pithfix.To's answer. -/
def toS (n : Nat) (bss : List (List Bool)) : List (List Int) := (List.range n).map fun v => ((List.range (bss.getD v []).length).filter fun u => (bss.getD v []).getD u false).map fun u : Nat => (u : Int)
theorem toS_ok {n : Nat} {ps : List Pair} (ha : among n ps) : (∀ v u : Nat, (u : Int) ∈ (toS n (marksP n ps)).getD v [] ↔ v < n ∧ edgeB ps v u = true) ∧ Adj n (toS n (marksP n ps)) := by
  have hg0 : ∀ v, (List.replicate n ([] : List Bool)).getD v [] = [] := fun v => by
    rw [List.getD_eq_getElem?_getD, List.getElem?_replicate]
    split <;> rfl
  have h0 : MI n (List.replicate n []) (edgeB []) := ⟨by simp, fun v _ => .inl (by rw [hg0]; rfl), fun v u _ _ => by rw [hg0]; rfl⟩
  have h1 : MI n (marksP n ps) (edgeB ps) := marks_ok ps [] _ h0 ha
  have hm : ∀ v u : Nat, (u : Int) ∈ (toS n (marksP n ps)).getD v [] ↔ v < n ∧ edgeB ps v u = true := fun v u => by
    unfold toS
    rw [getD_map_range]
    by_cases hv : v < n
    · rw [if_pos hv]
      simp only [List.mem_map, List.mem_filter, List.mem_range]
      constructor
      · rintro ⟨w, ⟨h2, h3⟩, e⟩
        have e : w = u := by omega
        subst e
        have hw : w < n := by
          rcases h1.row v hv with q | q <;> omega
        exact ⟨hv, by rw [← h1.get v w hv hw]; exact h3⟩
      · rintro ⟨_, h2⟩
        have hu := (edgeB_lt ha h2).2
        have h3 := h1.get v u hv hu
        rw [h2] at h3
        refine ⟨u, ⟨?_, h3⟩, rfl⟩
        refine Decidable.byContradiction fun q => ?_
        rw [List.getD_eq_getElem?_getD, List.getElem?_eq_none (by omega)] at h3
        cases h3
    · rw [if_neg hv]
      simp [hv]
  refine ⟨hm, adj_of_mem ha (by simp [toS]) (fun l hl x hx => ?_) hm⟩
  unfold toS at hl
  obtain ⟨v, _, rfl⟩ := List.mem_map.1 hl
  obtain ⟨u, _, rfl⟩ := List.mem_map.1 hx
  exact Int.natCast_nonneg _
open Classical in
/-- Are v and u joined among the vertices of a number of k or more? -/
noncomputable def compS (n : Nat) (ps : List Pair) (cs : List Int) (k : Int) (v u : Nat) : Bool := decide (Joined (within (adjOf n ps) (lv n cs k)) v u)
theorem compS_iff {n : Nat} {ps : List Pair} {cs : List Int} {k : Int} {v u : Nat} : compS n ps cs k v u = true ↔ Joined (within (adjOf n ps) (lv n cs k)) v u := by
  unfold compS
  simp only [decide_eq_true_eq]
/-- The nest of the graph of pairs. -/
noncomputable def nestS (n : Nat) (ps : List Pair) (cs : List Int) : List Node := forestS n cs (compS n ps cs) (levelsOf cs).reverse []
/-- The program's Forest and the reference's both answer the nest. -/
theorem forests_ok {n K : Nat} {ps : List Pair} {cs : List Int} (ha : among n ps) (hn : n ≤ 16777216) (hK : n ≤ K) (hcs : cs.length = n) :
    forestF K (adjOf n ps) cs = some (nestS n ps cs) ∧ refForestF n (toS n (marksP n ps)) cs (levelsOf cs).reverse [] = some (nestS n ps cs) ∧ (nestS n ps cs).length ≤ n := by
  obtain ⟨h1, h2⟩ := forestF_ok (adjOf_adj ha) hn hK hcs (compS n ps cs) fun k v u => compS_iff
  obtain ⟨h3, h4⟩ := toS_ok ha
  have hw : ∀ M, within (toS n (marksP n ps)) M = within (adjOf n ps) M := fun M => by
    funext a b
    unfold within
    refine propext (and_congr_right fun _ => and_congr_right fun _ => ?_)
    rw [h3, mem_adjOf]
  refine ⟨h1, refForest_ok h4 hn (compS n ps cs) (fun k v u => by rw [hw]; exact compS_iff) _ _ (fun x hx => by simp at hx) (Nat.le_trans h2 hn), h2⟩
/-! ### the reference's levels -/
theorem greatest_spec : ∀ (cs : List Int) (x : Int), (cs.foldl max x = x ∨ cs.foldl max x ∈ cs) ∧ x ≤ cs.foldl max x ∧ ∀ c ∈ cs, c ≤ cs.foldl max x
  | [], x => ⟨.inl rfl, Int.le_refl _, fun c h => by simp at h⟩
  | c :: cs, x => by
    obtain ⟨h1, h2, h3⟩ := greatest_spec cs (max x c)
    rw [List.foldl_cons]
    refine ⟨?_, by omega, fun d hd => ?_⟩
    · rcases h1 with h1 | h1
      · rw [h1]
        rcases Int.le_total x c with q | q
        · exact .inr (by rw [Int.max_eq_right q]; simp)
        · exact .inl (Int.max_eq_left q)
      · exact .inr (by simp [h1])
    · rcases List.mem_cons.1 hd with rfl | hd
      · omega
      · exact h3 d hd
theorem below_spec (k : Int) : ∀ (cs : List Int) (x : Int), (cs.foldl (fun x c => if c < k then max x c else x) x = x ∨ (cs.foldl (fun x c => if c < k then max x c else x) x ∈ cs ∧ cs.foldl (fun x c => if c < k then max x c else x) x < k)) ∧ x ≤ cs.foldl (fun x c => if c < k then max x c else x) x ∧ ∀ c ∈ cs, c < k → c ≤ cs.foldl (fun x c => if c < k then max x c else x) x
  | [], x => ⟨.inl rfl, Int.le_refl _, fun c h => by simp at h⟩
  | c :: cs, x => by
    rw [List.foldl_cons]
    by_cases hk : c < k
    · rw [if_pos hk]
      obtain ⟨h1, h2, h3⟩ := below_spec k cs (max x c)
      refine ⟨?_, by omega, fun d hd hdk => ?_⟩
      · rcases h1 with h1 | ⟨h1, h4⟩
        · rw [h1]
          rcases Int.le_total x c with q | q
          · exact .inr ⟨by rw [Int.max_eq_right q]; simp, by rw [Int.max_eq_right q]; exact hk⟩
          · exact .inl (Int.max_eq_left q)
        · exact .inr ⟨by simp [h1], h4⟩
      · rcases List.mem_cons.1 hd with rfl | hd
        · omega
        · exact h3 d hd hdk
    · rw [if_neg hk]
      obtain ⟨h1, h2, h3⟩ := below_spec k cs x
      refine ⟨?_, h2, fun d hd hdk => ?_⟩
      · rcases h1 with h1 | ⟨h1, h4⟩
        · exact .inl h1
        · exact .inr ⟨by simp [h1], h4⟩
      · rcases List.mem_cons.1 hd with rfl | hd
        · exact absurd hdk hk
        · exact h3 d hd hdk
theorem greatest_is {cs : List Int} (hg : good cs) : greatestF cs = (levelsOf cs).reverse.headD (-1) := by
  obtain ⟨h1, h2⟩ := levelsOf_spec cs
  obtain ⟨g1, g2, g3⟩ := greatest_spec cs (-1)
  unfold greatestF
  generalize (levelsOf cs).reverse = ls at *
  cases ls with
  | nil =>
    rcases g1 with g1 | g1
    · exact g1
    · have := (h2 _).2 g1
      simp at this
  | cons a ls =>
    show _ = a
    have ha := (h2 a).1 (by simp)
    have h4 := g3 a ha
    have h5 := (hg a ha).1
    rcases g1 with g1 | g1
    · omega
    · rcases List.mem_cons.1 ((h2 _).2 g1) with q | q
      · exact q
      · have := (List.pairwise_cons.1 h1).1 _ q
        omega
theorem below_is {cs ls pre : List Int} {k : Int} (hg : good cs) (hl : (levelsOf cs).reverse = pre ++ k :: ls) : belowF cs k = ls.headD (-1) := by
  obtain ⟨h1, h2⟩ := levelsOf_spec cs
  obtain ⟨g1, g2, g3⟩ := below_spec k cs (-1)
  unfold belowF
  rw [hl] at h1 h2
  obtain ⟨_, h3, h4⟩ := List.pairwise_append.1 h1
  obtain ⟨h5, h6⟩ := List.pairwise_cons.1 h3
  have hin : ∀ x, x ∈ cs → x < k → x ∈ ls := fun x hx hk => by
    rcases List.mem_append.1 ((h2 x).2 hx) with q | q
    · have := h4 x q k (by simp)
      omega
    · rcases List.mem_cons.1 q with q | q
      · omega
      · exact q
  generalize cs.foldl (fun x c => if c < k then max x c else x) (-1) = y at *
  cases ls with
  | nil =>
    rcases g1 with g1 | ⟨g1, g4⟩
    · exact g1
    · have := hin _ g1 g4
      simp at this
  | cons a ls =>
    show _ = a
    have ha : a ∈ cs := (h2 a).1 (by simp)
    have hak : a < k := h5 a (by simp)
    have q1 := g3 a ha hak
    have q2 := (hg a ha).1
    rcases g1 with g1 | ⟨g1, g4⟩
    · omega
    · rcases List.mem_cons.1 (hin _ g1 g4) with q | q
      · exact q
      · have := (List.pairwise_cons.1 h6).1 _ q
        omega
end Go.Proofs.Ytikgdhmnnnicmaa
