/- An order's frames (pure): what its payloads are, that they are read back; what is read of other bytes. Rows under way of the reference's Encode. No condition. -/
import Derived.Test.YtjncnppbaldmiaaGreatDoorVy
namespace Go.Proofs.YtjncnppbaldmiaaGreatDoor
open Go.RowKit
def vI (d : Int) : List UInt8 := vform d.toNat
def chD (ds : List Int) (k : Nat) : List Int := (ds.drop (200 * k)).take 200
def rowD (c : List Int) : List UInt8 := c.flatMap vI
def dataD (ds : List Int) : List (List UInt8) := (List.range (cnt ds.length)).map fun k => rowD (chD ds k)
theorem rowD_take {c : List Int} {i : Nat} (hi : i < c.length) : rowD (c.take (i + 1)) = rowD (c.take i) ++ vI c[i] := by
  unfold rowD
  rw [take_snoc hi, List.flatMap_append]
  simp
theorem chD_len (ds : List Int) (k : Nat) : (chD ds k).length = min 200 (ds.length - 200 * k) := by simp [chD]
def segD (ds : List Int) (a e : Nat) : List UInt8 := rowD ((ds.take e).drop a)
theorem segD_none (ds : List Int) {a e : Nat} (h : e ≤ a) : segD ds a e = [] := by
  unfold segD
  rw [List.drop_eq_nil_of_le (by simp; omega)]; rfl
theorem segD_step (ds : List Int) {a e : Nat} (h : a ≤ e) (he : e < ds.length) : segD ds a (e + 1) = segD ds a e ++ vI ds[e] := by
  unfold segD rowD
  rw [take_snoc he, List.drop_append_of_le_length (by simp; omega), List.flatMap_append]
  simp
def kD (C i : Nat) : Nat := if i < C then i / 200 else (C + 199) / 200
def rowsD (ds : List Int) (i : Nat) : List (List UInt8) := (List.range (kD ds.length i)).map fun k => rowD (chD ds k)
def curD (ds : List Int) (i : Nat) : List UInt8 := segD ds (200 * kD ds.length i) i
theorem rowsD_zero (ds : List Int) : rowsD ds 0 = [] := by
  unfold rowsD kD
  split
  · rfl
  · rw [show ds.length = 0 by omega]; rfl
theorem curD_zero (ds : List Int) : curD ds 0 = [] := segD_none ds (by omega)
theorem rowsD_end (ds : List Int) : rowsD ds ds.length = dataD ds := by
  unfold rowsD kD dataD cnt
  rw [if_neg (by omega)]
theorem chD_seg (ds : List Int) (k : Nat) : rowD (chD ds k) = segD ds (200 * k) (200 * (k + 1)) := by
  unfold segD chD
  rw [List.drop_take]
  rw [show 200 * (k + 1) - 200 * k = 200 by omega]
theorem segD_min (ds : List Int) (a e : Nat) : segD ds a e = segD ds a (min e ds.length) := by
  unfold segD
  rcases Nat.le_total e ds.length with h | h
  · rw [Nat.min_eq_left h]
  · rw [Nat.min_eq_right h, List.take_of_length_le h, List.take_length]
theorem stepD_flush (ds : List Int) {i : Nat} (hi : i < ds.length) (hf : i % 200 = 199 ∨ i = ds.length - 1) : rowsD ds (i + 1) = rowsD ds i ++ [curD ds i ++ vI ds[i]] ∧ curD ds (i + 1) = [] := by
  have e1 : kD ds.length i = i / 200 := by unfold kD; rw [if_pos hi]
  have e2 : kD ds.length (i + 1) = i / 200 + 1 := by
    unfold kD
    split <;> omega
  constructor
  · unfold rowsD curD
    rw [e1, e2, List.range_succ, List.map_append]
    simp only [List.map_cons, List.map_nil]
    rw [← segD_step ds (by omega) hi, chD_seg, segD_min]
    rw [show min (200 * (i / 200 + 1)) ds.length = i + 1 by omega]
  · unfold curD
    rw [e2]
    exact segD_none ds (by omega)
theorem stepD_keep (ds : List Int) {i : Nat} (hi : i < ds.length) (hf : ¬(i % 200 = 199 ∨ i = ds.length - 1)) : rowsD ds (i + 1) = rowsD ds i ∧ curD ds (i + 1) = curD ds i ++ vI ds[i] := by
  have e1 : kD ds.length i = i / 200 := by unfold kD; rw [if_pos hi]
  have e2 : kD ds.length (i + 1) = i / 200 := by
    unfold kD
    split <;> omega
  unfold rowsD curD
  rw [e1, e2]
  exact ⟨rfl, segD_step ds (by omega) hi⟩
def rdAll : Nat → List UInt8 → Option (List Int)
  | 0, bs => if bs = [] then some [] else none
  | f + 1, bs => if bs = [] then some [] else match vread bs with
    | none => none
    | some (x, n) => (rdAll f (bs.drop n)).map ((x : Int) :: ·)
theorem rdAll_nil (f : Nat) : rdAll f [] = some [] := by cases f <;> simp [rdAll]
/-- The fuel does not matter, so long as it is enough. -/
theorem rdAll_fuel : ∀ (f g : Nat) (bs : List UInt8), bs.length ≤ f → bs.length ≤ g → rdAll f bs = rdAll g bs
  | f, g, [], _, _ => by rw [rdAll_nil, rdAll_nil]
  | 0, _, _ :: _, h, _ => by simp at h
  | _ + 1, 0, _ :: _, _, h => by simp at h
  | f + 1, g + 1, c :: r, hf, hg => by
    simp only [rdAll, reduceCtorEq, if_false]
    cases hv : vread (c :: r) with
    | none => rfl
    | some xn =>
      obtain ⟨x, n⟩ := xn
      have h := vread_le hv
      simp only
      rw [rdAll_fuel f g ((c :: r).drop n) (by simp only [List.length_drop, List.length_cons] at *; omega) (by simp only [List.length_drop, List.length_cons] at *; omega)]
def degFrame (bs : List UInt8) : Option (List Int) := rdAll bs.length bs
theorem degFrame_nil : degFrame [] = some [] := rfl
theorem degFrame_no {bs : List UInt8} (h0 : bs ≠ []) (h : vread bs = none) : degFrame bs = none := by
  unfold degFrame
  obtain ⟨c, r, rfl⟩ : ∃ c r, bs = c :: r := by cases bs with | nil => exact absurd rfl h0 | cons c r => exact ⟨c, r, rfl⟩
  simp only [List.length_cons, rdAll, reduceCtorEq, if_false, h]
theorem degFrame_step {bs : List UInt8} {x n : Nat} (h : vread bs = some (x, n)) : degFrame bs = (degFrame (bs.drop n)).map ((x : Int) :: ·) := by
  have hl := vread_le h
  unfold degFrame
  obtain ⟨c, r, rfl⟩ : ∃ c r, bs = c :: r := by cases bs with | nil => simp at hl; omega | cons c r => exact ⟨c, r, rfl⟩
  simp only [List.length_cons, rdAll, reduceCtorEq, if_false, h]
  rw [rdAll_fuel r.length ((c :: r).drop n).length ((c :: r).drop n) (by simp only [List.length_drop, List.length_cons] at *; omega) (Nat.le_refl _)]
def degF : List (List UInt8) → Option (List Int)
  | [] => some []
  | b :: r => (degFrame b).bind fun l => (degF r).map (l ++ ·)
/-- What has been written is read. -/
theorem degFrame_row : ∀ (c : List Int), (∀ d ∈ c, 0 ≤ d ∧ d < 9223372036854775808) → degFrame (rowD c) = some c
  | [], _ => rfl
  | d :: c, h => by
    have hd := h d List.mem_cons_self
    have e : rowD (d :: c) = vform d.toNat ++ rowD c := by simp [rowD, vI]
    have h9 : (128 : Nat) ^ 9 = 9223372036854775808 := by decide
    have hv := vread_vform (x := d.toNat) (by omega) (rowD c)
    rw [← e] at hv
    rw [degFrame_step hv, e, List.drop_left, degFrame_row c fun d hd => h d (List.mem_cons_of_mem _ hd)]
    simp
    omega
theorem degF_rows (cs : List (List Int)) (h : ∀ c ∈ cs, ∀ d ∈ c, 0 ≤ d ∧ d < 9223372036854775808) : degF (cs.map rowD) = some cs.flatten := by
  induction cs with
  | nil => rfl
  | cons c cs ih =>
    simp only [List.map_cons, degF, degFrame_row c (h c List.mem_cons_self), ih fun c hc => h c (List.mem_cons_of_mem _ hc)]
    simp
theorem degFrame_len : ∀ (k : Nat) (bs : List UInt8) (l : List Int), bs.length ≤ k → degFrame bs = some l → l.length ≤ bs.length
  | _, [], l, _, h => by rw [degFrame_nil] at h; cases h; simp
  | 0, _ :: _, _, h, _ => by simp at h
  | k + 1, c :: r, l, hk, h => by
    cases hv : vread (c :: r) with
    | none => rw [degFrame_no (by simp) hv] at h; cases h
    | some xn =>
      obtain ⟨x, n⟩ := xn
      have hl := vread_le hv
      rw [degFrame_step hv] at h
      cases hd : degFrame ((c :: r).drop n) with
      | none => rw [hd] at h; cases h
      | some l' =>
        rw [hd] at h
        cases h
        have := degFrame_len k ((c :: r).drop n) l' (by simp only [List.length_drop, List.length_cons] at *; omega) hd
        simp only [List.length_drop, List.length_cons] at *
        omega
theorem chunks_flat (ds : List Int) : ∀ k, ((List.range k).map fun j => chD ds j).flatten = ds.take (200 * k)
  | 0 => by simp
  | k + 1 => by
    rw [List.range_succ, List.map_append, List.flatten_append, chunks_flat ds k]
    simp only [List.map_cons, List.map_nil, List.flatten_cons, List.flatten_nil, List.append_nil]
    unfold chD
    rw [show 200 * (k + 1) = 200 * k + 200 by omega, List.take_add]
theorem degF_data (ds : List Int) (h : ∀ d ∈ ds, 0 ≤ d ∧ d < 9223372036854775808) : degF (dataD ds) = some ds := by
  have e : dataD ds = ((List.range (cnt ds.length)).map fun j => chD ds j).map rowD := by unfold dataD; rw [List.map_map]; rfl
  rw [e, degF_rows _ fun c hc d hd => by
    obtain ⟨j, _, rfl⟩ := List.mem_map.1 hc
    exact h d (List.mem_of_mem_drop (List.mem_of_mem_take hd)), chunks_flat, List.take_of_length_le (by unfold cnt; omega)]
def sumL (data : List (List UInt8)) : Nat := (data.map List.length).sum
theorem sumL_take {data : List (List UInt8)} {i : Nat} (hi : i < data.length) : sumL (data.take (i + 1)) = sumL (data.take i) + data[i].length := by
  unfold sumL
  rw [take_snoc hi, List.map_append, List.sum_append]
  simp only [List.map_cons, List.map_nil, List.sum_cons, List.sum_nil, Nat.add_zero]
theorem sumL_le (data : List (List UInt8)) (i : Nat) : sumL (data.take i) ≤ sumL data := by
  have h : sumL (data.take i) + sumL (data.drop i) = sumL data := by
    unfold sumL
    rw [← List.sum_append, ← List.map_append, List.take_append_drop]
  omega
/-- data and the row under way, all of them the call's own. -/
structure EQ (lo : Nat) (w0 W : World) (dv : Value) (vs : List Value) (bv : Value) (rows : List (List UInt8)) (cur : List UInt8) : Prop where
  bel : Below lo w0 W
  size : lo ≤ W.heap.size
  bl : BL W lo dv vs rows
  own : W.ownsRow lo 5 1 bv cur.length (u8s cur)
  nd : ∀ q, bv.ownBlock = some q → dv.ownBlock ≠ some q ∧ ∀ (i : Nat) (v : Value), vs[i]? = some v → v.ownBlock ≠ some q
section
variable {lo : Nat} {w0 W w9 : World} {dv bv v1 dv1 : Value} {vs : List Value} {rows : List (List UInt8)} {cur new : List UInt8}
theorem EQ.init (w : World) : EQ w.heap.size w w (.slice none 0 0) [] (.slice none 0 0) [] [] :=
  ⟨Below.refl _ _, Nat.le_refl _, BL.nil _ _, World.ownsRow_nil _ _ _ _, fun q e => by cases e⟩
theorem EQ.grow (h : EQ lo w0 W dv vs bv rows cur) (ho : w9.ownsRow lo 5 1 v1 new.length (u8s new)) (hg : W.grownBy w9 bv.ownBlock) (hm : Moved W bv v1) : EQ lo w0 w9 dv vs v1 rows new := by
  refine ⟨h.bel.grown hg h.size fun q e => (h.own.lt q e).1, Nat.le_trans h.size hg.size, h.bl.grown hg fun q e => h.nd q e, ho, fun q e => ?_⟩
  rcases hm with hm | ⟨k, hm, hk⟩
  · rw [hm] at e; exact h.nd q e
  · rw [hm] at e
    have hqk : k = q := Option.some.inj e
    refine ⟨fun e2 => ?_, fun i v hv e2 => ?_⟩
    · have := (h.bl.own.lt q e2).2; omega
    · have hir : i < rows.length := by have := (List.getElem?_eq_some_iff.1 hv).1; have := h.bl.len; omega
      have hr : rows[i]? = some rows[i] := List.getElem?_eq_getElem hir
      have := ((h.bl.row i v _ hv hr).lt q e2).2
      omega
theorem EQ.fresh (h : EQ lo w0 W dv vs bv rows cur) (ho : w9.ownsRow W.heap.size 5 1 v1 new.length (u8s new)) (hb : Below W.heap.size W w9) : EQ lo w0 w9 dv vs v1 rows new := by
  have hsz := h.size
  refine ⟨h.bel.trans (hb.mono hsz), Nat.le_trans hsz hb.size, h.bl.below hb, own_low ho hsz, fun q e => ?_⟩
  have h1 := (ho.lt q e).1
  refine ⟨fun e2 => ?_, fun i v hv e2 => ?_⟩
  · have := (h.bl.own.lt q e2).2; omega
  · have hir : i < rows.length := by have := (List.getElem?_eq_some_iff.1 hv).1; have := h.bl.len; omega
    have hr : rows[i]? = some rows[i] := List.getElem?_eq_getElem hir
    have := ((h.bl.row i v _ hv hr).lt q e2).2
    omega
theorem EQ.flush (h : EQ lo w0 W dv vs bv rows cur) (ho : w9.ownsRow lo 25 1 dv1 (rows.length + 1) (vs ++ [bv])) (hg : W.grownBy w9 dv.ownBlock) (hat : dv1.ownBlock = dv.ownBlock ∨ dv1.ownBlock = some (W.heap.size + 1)) :
    EQ lo w0 w9 dv1 (vs ++ [bv]) (.slice none 0 0) (rows ++ [cur]) [] := by
  refine ⟨h.bel.grown hg h.size fun q e => (h.bl.own.lt q e).1, Nat.le_trans h.size hg.size, ?_, World.ownsRow_nil _ _ _ _, fun q e => by cases e⟩
  exact h.bl.snoc h.own (fun q e => (h.nd q e).1) ho hg (by rcases hat with e | e; exact .inl e; exact .inr ⟨_, e, by omega⟩)
end
/-- What is read of bytes whatever they are: behind the first fault a 0, and no more. -/
def rdG : Nat → List UInt8 → List Int
  | 0, _ => []
  | f + 1, bs => if bs = [] then [] else match vread bs with
    | none => [0]
    | some (x, n) => (x : Int) :: rdG f (bs.drop n)
theorem rdG_nil (f : Nat) : rdG f [] = [] := by cases f <;> simp [rdG]
theorem rdG_fuel : ∀ (f g : Nat) (bs : List UInt8), bs.length ≤ f → bs.length ≤ g → rdG f bs = rdG g bs
  | f, g, [], _, _ => by rw [rdG_nil, rdG_nil]
  | 0, _, _ :: _, h, _ => by simp at h
  | _ + 1, 0, _ :: _, _, h => by simp at h
  | f + 1, g + 1, c :: r, hf, hg => by
    simp only [rdG, reduceCtorEq, if_false]
    cases hv : vread (c :: r) with
    | none => rfl
    | some xn =>
      obtain ⟨x, n⟩ := xn
      have h := vread_le hv
      simp only
      rw [rdG_fuel f g ((c :: r).drop n) (by simp only [List.length_drop, List.length_cons] at *; omega) (by simp only [List.length_drop, List.length_cons] at *; omega)]
theorem rdG_all : ∀ (f : Nat) (bs : List UInt8) (l : List Int), rdAll f bs = some l → rdG f bs = l
  | 0, bs, l, h => by
    rw [rdAll] at h
    split at h
    · cases h; rfl
    · cases h
  | f + 1, bs, l, h => by
    rw [rdAll] at h
    rw [rdG]
    split at h
    · rename_i h0; rw [if_pos h0]; cases h; rfl
    · rename_i h0
      rw [if_neg h0]
      cases hv : vread bs with
      | none => rw [hv] at h; cases h
      | some xn =>
        obtain ⟨x, n⟩ := xn
        rw [hv] at h
        simp only at h ⊢
        cases hr : rdAll f (bs.drop n) with
        | none => rw [hr] at h; cases h
        | some r =>
          rw [hr] at h
          cases h
          rw [rdG_all f _ _ hr]
def frG (bs : List UInt8) : List Int := rdG bs.length bs
theorem frG_nil : frG [] = [] := rfl
theorem frG_no {bs : List UInt8} (h0 : bs ≠ []) (h : vread bs = none) : frG bs = [0] := by
  unfold frG
  obtain ⟨c, r, rfl⟩ : ∃ c r, bs = c :: r := by cases bs with | nil => exact absurd rfl h0 | cons c r => exact ⟨c, r, rfl⟩
  simp only [List.length_cons, rdG, reduceCtorEq, if_false, h]
theorem frG_step {bs : List UInt8} {x n : Nat} (h : vread bs = some (x, n)) : frG bs = (x : Int) :: frG (bs.drop n) := by
  have hl := vread_le h
  unfold frG
  obtain ⟨c, r, rfl⟩ : ∃ c r, bs = c :: r := by cases bs with | nil => simp at hl; omega | cons c r => exact ⟨c, r, rfl⟩
  simp only [List.length_cons, rdG, reduceCtorEq, if_false, h]
  rw [rdG_fuel r.length ((c :: r).drop n).length ((c :: r).drop n) (by simp only [List.length_drop, List.length_cons] at *; omega) (Nat.le_refl _)]
theorem frG_len : ∀ (k : Nat) (bs : List UInt8), bs.length ≤ k → (frG bs).length ≤ bs.length
  | 0, bs, h => by
    have : bs = [] := List.eq_nil_of_length_eq_zero (by omega)
    subst this; simp [frG, rdG]
  | k + 1, bs, h => by
    cases bs with
    | nil => simp [frG, rdG]
    | cons c r =>
      cases hv : vread (c :: r) with
      | none => rw [frG_no (by simp) hv]; simp
      | some xn =>
        obtain ⟨x, n⟩ := xn
        have hl := vread_le hv
        rw [frG_step hv]
        have := frG_len k ((c :: r).drop n) (by rw [List.length_drop]; omega)
        simp only [List.length_cons, List.length_drop] at this ⊢
        omega
def allG (data : List (List UInt8)) : List Int := data.flatMap frG
theorem allG_rows : ∀ (data : List (List UInt8)) (l : List Int), degF data = some l → allG data = l
  | [], l, h => by rw [degF] at h; cases h; rfl
  | b :: r, l, h => by
    rw [degF] at h
    cases h1 : degFrame b with
    | none => rw [h1] at h; cases h
    | some l1 =>
      rw [h1] at h
      simp only [Option.bind_some] at h
      cases h2 : degF r with
      | none => rw [h2] at h; cases h
      | some l2 =>
        rw [h2] at h
        cases h
        have a : frG b = l1 := rdG_all _ _ _ h1
        have c := allG_rows r l2 h2
        unfold allG at c ⊢
        rw [List.flatMap_cons, a, c]
theorem allG_len (data : List (List UInt8)) : (allG data).length ≤ sumL data := by
  induction data with
  | nil => simp [allG, sumL]
  | cons b r ih =>
    have := frG_len b.length b (Nat.le_refl _)
    simp only [allG, List.flatMap_cons, List.length_append, sumL, List.map_cons, List.sum_cons] at ih ⊢
    omega
/-- Each number below the length once? -/
def permB (l : List Int) : Bool := l.all (fun d => decide (0 ≤ d ∧ d < (l.length : Int))) && decide l.Nodup
def ordB (gen : Int) (l : List Int) : Bool := decide (1 ≤ gen ∧ gen ≤ 2147483647) && (permB l && decide (l.length ≤ 16777216))
def headO (gen : Int) (l : List Int) : List UInt8 := fours [gen, (l.length : Int)]
def encO (gen : Int) (l : List Int) : List UInt8 × List (List UInt8) × Int := if ordB gen l then (headO gen l, dataD l, 0) else ([], [], 200)
theorem permB_nums {l : List Int} (h : permB l = true) : ∀ d ∈ l, 0 ≤ d ∧ d < (l.length : Int) := by
  unfold permB at h
  rw [Bool.and_eq_true, List.all_eq_true] at h
  intro d hd
  simpa using h.1 d hd
theorem ordB_parts {gen : Int} {l : List Int} (h : ordB gen l = true) : (1 ≤ gen ∧ gen ≤ 2147483647) ∧ permB l = true ∧ l.length ≤ 16777216 := by
  unfold ordB at h
  simpa [and_assoc] using h
theorem headO_len (gen : Int) (l : List Int) : (headO gen l).length = 8 := by unfold headO; rw [fours_length]; rfl
/-- Decode's answer. -/
def decO (gen n : Int) (head : List UInt8) (data : List (List UInt8)) : Option (List Int) :=
  if ordB gen (allG data) = true ∧ ((allG data).length : Int) = n ∧ headO gen (allG data) = head ∧ dataD (allG data) = data then some (allG data) else none
theorem ordB_allG {gen : Int} {l : List Int} (h : ordB gen l = true) : allG (dataD l) = l := by
  obtain ⟨_, hp, hl⟩ := ordB_parts h
  exact allG_rows _ _ (degF_data l fun d hd => by have := permB_nums hp d hd; omega)
theorem decO_iff {gen n : Int} {head : List UInt8} {data : List (List UInt8)} {l : List Int} : decO gen n head data = some l ↔ ordB gen l = true ∧ (l.length : Int) = n ∧ headO gen l = head ∧ dataD l = data := by
  unfold decO
  constructor
  · intro h
    split at h
    · cases h; assumption
    · cases h
  · rintro ⟨h1, h2, h3, rfl⟩
    rw [ordB_allG h1, if_pos ⟨h1, h2, h3, rfl⟩]
theorem encO_inj {gen : Int} {l l' : List Int} (h : ordB gen l = true) (h' : ordB gen l' = true) (e : dataD l = dataD l') : l = l' := by
  rw [← ordB_allG h, e, ordB_allG h']
/-- What the document's Decode has read, never more than n + 1 numbers. -/
theorem decO_take {gen n : Int} {head : List UInt8} {data : List (List UInt8)} {l : List Int} {k : Nat} (hk : n < 0 ∧ k = 0 ∨ 0 ≤ n ∧ (k : Int) = n + 1) (hl : l = (allG data).take k) :
    decO gen n head data = if ordB gen l = true ∧ (l.length : Int) = n ∧ headO gen l = head ∧ dataD l = data then some l else none := by
  unfold decO
  by_cases hlen : (allG data).length < k
  · have : l = allG data := by rw [hl, List.take_of_length_le (by omega)]
    rw [this]
  · have h1 : l.length = k := by rw [hl, List.length_take]; omega
    rw [if_neg (by omega), if_neg (by omega)]
end Go.Proofs.YtjncnppbaldmiaaGreatDoor
