/- What the program's parse of a name says is what the document says of it: pure laws. No program. No condition. -/
import Derived.Test.YtgbladpoglhleaaGreatDoorNq
import Derived.Test.YtgbladpoglhleaaGreatDoorNx
import Derived.Lib.SplitLaws
import Derived.Lib.LastIndexByte
namespace Go.Proofs.YtgbladpoglhleaaGreatDoor
open Go.RowKit Go.Lib
/-- The numbers of the parts, if all are numbers. -/
def numsF : List (List UInt8) → Option (List Nat)
  | [] => some []
  | p :: ps => match numF p with
    | none => none
    | some n => match numsF ps with
      | none => none
      | some ns => some (n :: ns)
theorem numsF_none_cons {p : List UInt8} {ps : List (List UInt8)} (h : numF p = none) : numsF (p :: ps) = none := by rw [numsF, h]
theorem numsF_cons {p : List UInt8} {ps : List (List UInt8)} {n : Nat} (h : numF p = some n) : numsF (p :: ps) = (numsF ps).map (n :: ·) := by
  rw [numsF, h]; cases numsF ps <;> rfl
theorem numsF_append : ∀ (xs ys : List (List UInt8)), numsF (xs ++ ys) = (numsF xs).bind fun a => (numsF ys).map (a ++ ·)
  | [], ys => by cases h : numsF ys <;> simp [numsF, h]
  | x :: xs, ys => by
    rw [List.cons_append]
    cases h : numF x with
    | none => rw [numsF_none_cons h, numsF_none_cons h]; rfl
    | some n =>
      rw [numsF_cons h, numsF_cons h, numsF_append xs ys]
      cases numsF xs <;> cases numsF ys <;> rfl
theorem numsF_all : ∀ xs : List (List UInt8), allNum xs = (numsF xs).isSome
  | [] => rfl
  | x :: xs => by
    have ih := numsF_all xs
    unfold allNum at ih ⊢
    rw [List.all_cons, ih]
    cases h : numF x with
    | none => rw [numsF_none_cons h]; rfl
    | some n => rw [numsF_cons h]; cases numsF xs <;> rfl
theorem numsF_len : ∀ {xs : List (List UInt8)} {ns : List Nat}, numsF xs = some ns → ns.length = xs.length
  | [], ns, h => by simp only [numsF, Option.some.injEq] at h; subst h; rfl
  | x :: xs, ns, h => by
    cases hx : numF x with
    | none => rw [numsF_none_cons hx] at h; cases h
    | some n =>
      rw [numsF_cons hx] at h
      cases hr : numsF xs with
      | none => rw [hr] at h; cases h
      | some m =>
        rw [hr] at h
        simp only [Option.map_some, Option.some.injEq] at h
        subst h
        simp [numsF_len hr]
theorem numsF_two {p q : List UInt8} {ns : List Nat} (h : numsF [p, q] = some ns) : ∃ a b, ns = [a, b] ∧ numZ p = a ∧ numZ q = b := by
  cases hp : numF p with
  | none => rw [numsF_none_cons hp] at h; cases h
  | some a =>
    cases hq : numF q with
    | none => rw [numsF_cons hp, numsF_none_cons hq] at h; cases h
    | some b =>
      rw [numsF_cons hp, numsF_cons hq] at h
      simp only [numsF, Option.map_some, Option.some.injEq] at h
      exact ⟨a, b, h.symm, by simp [numZ, hp], by simp [numZ, hq]⟩
theorem numsF_one {p : List UInt8} {ns : List Nat} (h : numsF [p] = some ns) : ∃ a, ns = [a] ∧ numZ p = a := by
  cases hp : numF p with
  | none => rw [numsF_none_cons hp] at h; cases h
  | some a =>
    rw [numsF_cons hp] at h
    simp only [numsF, Option.map_some, Option.some.injEq] at h
    exact ⟨a, h.symm, by simp [numZ, hp]⟩
theorem numsF_three {p q r : List UInt8} {ns : List Nat} (h : numsF [p, q, r] = some ns) : ∃ a b c, ns = [a, b, c] ∧ numZ p = a ∧ numZ q = b ∧ numZ r = c := by
  cases hp : numF p with
  | none => rw [numsF_none_cons hp] at h; cases h
  | some a =>
    rw [numsF_cons hp] at h
    cases hr : numsF [q, r] with
    | none => rw [hr] at h; cases h
    | some m =>
      rw [hr] at h
      obtain ⟨b, c, rfl, hb, hc⟩ := numsF_two hr
      simp only [Option.map_some, Option.some.injEq] at h
      exact ⟨a, b, c, h.symm, by simp [numZ, hp], hb, hc⟩
/-- Does the program's parse say yes? -/
def shapeOk (l : List UInt8) : Bool := match numsF (split46 l).tail with
  | none => false
  | some ns => isShape ((split46 l).headD []) ns.length
theorem split46_cons_ne {c : UInt8} (cs : List UInt8) (hc : c ≠ 46) : ∃ p ps, split46 cs = p :: ps ∧ split46 (c :: cs) = (c :: p) :: ps := by
  cases h : split46 cs with
  | nil => exact absurd h (split46_ne cs)
  | cons p ps => exact ⟨p, ps, rfl, by rw [split46, if_neg hc, h]⟩
/-- A name of time: its first part is a t, and there is another one. -/
theorem prefix_t (l : List UInt8) : hasPrefix l [116, 46] = (decide ((split46 l).headD [] = [116]) && decide (2 ≤ (split46 l).length)) := by
  unfold hasPrefix
  match l with
  | [] => simp [split46, List.isPrefixOf]
  | [c] =>
    by_cases hc : c = 46
    · subst hc; decide
    · obtain ⟨p, ps, h1, h2⟩ := split46_cons_ne [] hc
      simp only [split46, List.cons.injEq] at h1
      obtain ⟨rfl, rfl⟩ := h1
      rw [h2]
      simp [List.isPrefixOf]
  | c :: d :: r =>
    by_cases hc : c = 46
    · subst hc
      rw [split46, if_pos rfl]
      simp [List.isPrefixOf]
    · obtain ⟨p, ps, h1, h2⟩ := split46_cons_ne (d :: r) hc
      rw [h2]
      by_cases hd : d = 46
      · subst hd
        rw [split46, if_pos rfl, List.cons.injEq] at h1
        obtain ⟨rfl, rfl⟩ := h1
        have := split46_ne r
        cases hs : split46 r with
        | nil => exact absurd hs this
        | cons y ys =>
          by_cases h : c = 116
          · subst h; simp [List.isPrefixOf]
          · simp [List.isPrefixOf, h, Ne.symm h]
      · obtain ⟨p', ps', h3, h4⟩ := split46_cons_ne r hd
        rw [h4, List.cons.injEq] at h1
        obtain ⟨rfl, rfl⟩ := h1
        simp [List.isPrefixOf, Ne.symm hd]
theorem isShape_t (n : Int) : isShape [116] n = false := by simp [isShape, shapesL]
theorem isShape_iff {x : List UInt8} {n : Int} (h : isShape x n = true) : (x = bManifest ∧ n = 0) ∨ ((x = bCore ∨ x = bOrder ∨ x = bNest ∨ x = bCkpt) ∧ n = 1) ∨ (x = [115] ∧ n = 2) ∨ (x = [120] ∧ (n = 2 ∨ n = 3)) := by
  unfold isShape at h
  rw [List.any_eq_true] at h
  obtain ⟨p, hp, hx⟩ := h
  simp only [Bool.and_eq_true, decide_eq_true_eq, beq_iff_eq] at hx
  obtain ⟨rfl, rfl⟩ := hx
  simp only [shapesL, List.mem_cons, List.not_mem_nil, or_false] at hp
  rcases hp with rfl | rfl | rfl | rfl | rfl | rfl | rfl | rfl
  · exact .inl ⟨rfl, rfl⟩
  · exact .inr (.inl ⟨.inl rfl, rfl⟩)
  · exact .inr (.inl ⟨.inr (.inl rfl), rfl⟩)
  · exact .inr (.inl ⟨.inr (.inr (.inl rfl)), rfl⟩)
  · exact .inr (.inl ⟨.inr (.inr (.inr rfl)), rfl⟩)
  · exact .inr (.inr (.inl ⟨rfl, rfl⟩))
  · exact .inr (.inr (.inr ⟨rfl, .inl rfl⟩))
  · exact .inr (.inr (.inr ⟨rfl, .inr rfl⟩))
theorem isShape_of {x : List UInt8} {n : Int} (h : (x = bManifest ∧ n = 0) ∨ ((x = bCore ∨ x = bOrder ∨ x = bNest ∨ x = bCkpt) ∧ n = 1) ∨ (x = [115] ∧ n = 2) ∨ (x = [120] ∧ (n = 2 ∨ n = 3))) : isShape x n = true := by
  rcases h with ⟨rfl, rfl⟩ | ⟨rfl | rfl | rfl | rfl, rfl⟩ | ⟨rfl, rfl⟩ | ⟨rfl, rfl | rfl⟩ <;> decide
/-- The program's Ours is the document's. -/
theorem ours_shape (l : List UInt8) : (shapeOk l || hasPrefix l [116, 46]) = oursF l := by
  rw [prefix_t]
  unfold shapeOk oursF
  rw [numsF_all]
  cases hs : split46 l with
  | nil => exact absurd hs (split46_ne l)
  | cons x xs =>
    simp only [List.tail_cons, List.headD_cons, List.length_cons]
    by_cases ht : x = [116]
    · subst ht
      have h1 : oursW [116] (xs.length + 1) (numsF xs).isSome = decide (2 ≤ xs.length + 1) := by simp [oursW, bManifest, bCore, bOrder, bNest, bCkpt]
      rw [h1]
      cases hn : numsF xs with
      | none => simp
      | some ns => simp [isShape_t]
    · simp only [ht, decide_false, Bool.false_and, Bool.or_false]
      cases hn : numsF xs with
      | none =>
        simp only
        symm
        unfold oursW
        split
        · rename_i e
          rw [beq_eq_false_iff_ne]
          intro e2
          have : xs = [] := List.eq_nil_of_length_eq_zero (by omega)
          subst this
          cases hn
        · split
          · simp
          · split
            · simp
            · split
              · simp
              · first | rfl | rw [if_neg ht]
      | some ns =>
        have hl := numsF_len hn
        simp only [Option.isSome_some]
        rw [Bool.eq_iff_iff]
        constructor
        · intro h
          rcases isShape_iff h with ⟨rfl, h0⟩ | ⟨h0, h1⟩ | ⟨rfl, h1⟩ | ⟨rfl, h1⟩
          · have : xs.length = 0 := by omega
            simp [oursW, this]
          · have : xs.length = 1 := by omega
            rw [this]
            rcases h0 with rfl | rfl | rfl | rfl <;> rfl
          · have : xs.length = 2 := by omega
            rw [this]; rfl
          · rcases h1 with h1 | h1
            · have : xs.length = 2 := by omega
              rw [this]; rfl
            · have : xs.length = 3 := by omega
              rw [this]; rfl
        · intro h
          apply isShape_of
          unfold oursW at h
          split at h
          · rename_i e
            have := beq_iff_eq.1 h
            exact .inl ⟨e, by omega⟩
          · split at h
            · rename_i e
              simp only [Bool.and_true, beq_iff_eq] at h
              exact .inr (.inl ⟨e, by omega⟩)
            · split at h
              · rename_i e
                simp only [Bool.and_true, beq_iff_eq] at h
                exact .inr (.inr (.inl ⟨e, by omega⟩))
              · split at h
                · rename_i e
                  simp only [Bool.and_true, Bool.or_eq_true, beq_iff_eq] at h
                  exact .inr (.inr (.inr ⟨e, by omega⟩))
                · first | cases h | (rw [if_neg ht] at h; cases h)
/-! ### a name out of its parts -/
def joinF : List (List UInt8) → List UInt8
  | [] => []
  | [p] => p
  | p :: q :: ps => p ++ 46 :: joinF (q :: ps)
theorem join_split : ∀ l : List UInt8, joinF (split46 l) = l
  | [] => rfl
  | c :: cs => by
    have ih := join_split cs
    by_cases hc : c = 46
    · subst hc
      rw [split46, if_pos rfl]
      cases hs : split46 cs with
      | nil => exact absurd hs (split46_ne cs)
      | cons p ps => rw [hs] at ih; rw [joinF, ih]; rfl
    · obtain ⟨p, ps, h1, h2⟩ := split46_cons_ne cs hc
      rw [h1] at ih
      rw [h2]
      cases ps with
      | nil => simp only [joinF] at ih ⊢; rw [ih]
      | cons q qs => simp only [joinF] at ih ⊢; rw [List.cons_append, ih]
theorem split_clean : ∀ l : List UInt8, ∀ p ∈ split46 l, (46 : UInt8) ∉ p
  | [], p, h => by simp [split46] at h; subst h; simp
  | c :: cs, p, h => by
    by_cases hc : c = 46
    · rw [split46, if_pos hc] at h
      rcases List.mem_cons.1 h with rfl | h
      · simp
      · exact split_clean cs p h
    · obtain ⟨q, qs, h1, h2⟩ := split46_cons_ne cs hc
      rw [h2] at h
      have ih := split_clean cs
      rw [h1] at ih
      rcases List.mem_cons.1 h with rfl | h
      · have := ih q (List.mem_cons_self ..)
        simp [Ne.symm hc, this]
      · exact ih p (List.mem_cons_of_mem _ h)
theorem last_unique {a b c d : List UInt8} (h : a ++ 46 :: b = c ++ 46 :: d) (hb : (46 : UInt8) ∉ b) (hd : (46 : UInt8) ∉ d) : a = c := by
  induction a generalizing c with
  | nil =>
    cases c with
    | nil => rfl
    | cons y c =>
      simp only [List.nil_append, List.cons_append, List.cons.injEq] at h
      exact absurd (by rw [h.2]; simp) hb
  | cons x a ih =>
    cases c with
    | nil =>
      simp only [List.nil_append, List.cons_append, List.cons.injEq] at h
      exact absurd (by rw [← h.2]; simp) hd
    | cons y c =>
      simp only [List.cons_append, List.cons.injEq] at h
      rw [h.1, ih h.2]
/-- Of the bytes of a text: the last point's place is where the last part begins. -/
theorem lastByte_join {s : ByteArray} {a b : List UInt8} (h : s.data.toList = a ++ 46 :: b) (hb : (46 : UInt8) ∉ b) : lastIndexByte s 46 = (a.length : Int) := by
  have hsz : s.size = a.length + 1 + b.length := by
    have : s.data.toList.length = s.size := by simp
    rw [← this, h]; simp; omega
  have hget : ∀ j, j < s.size → s.data[j]! = s.data.toList.getD j 0 := fun j hj => by
    have h1 : j < s.data.size := hj
    rw [getElem!_pos s.data j h1, List.getD_eq_getElem?_getD, List.getElem?_eq_getElem (by simpa using h1)]
    simp
  rcases lastIndexByte_spec s 46 with ⟨_, h2⟩ | ⟨i, hi, e, hc, h2⟩
  · exact absurd (by rw [hget _ (by omega), h, List.getD_eq_getElem?_getD, List.getElem?_append_right (Nat.le_refl _)]; simp) (h2 a.length (by omega))
  · rw [e]
    rcases Nat.lt_trichotomy i a.length with hl | hl | hl
    · exact absurd (by rw [hget _ (by omega), h, List.getD_eq_getElem?_getD, List.getElem?_append_right (Nat.le_refl _)]; simp) (h2 a.length hl (by omega))
    · rw [hl]
    · rw [hget _ hi, h, List.getD_eq_getElem?_getD, List.getElem?_append_right (by omega)] at hc
      obtain ⟨k, hk⟩ : ∃ k, i - a.length = k + 1 := ⟨i - a.length - 1, by omega⟩
      rw [hk, List.getElem?_cons_succ, List.getElem?_eq_getElem (by omega), Option.getD_some] at hc
      exfalso
      apply hb
      have h48 : (b[k]'(by omega)) = 46 := by
        apply UInt8.toNat_inj.1
        have : ((46 : UInt8).toNat) = 46 := rfl
        omega
      rw [← h48]
      exact List.getElem_mem _
/-- Is a name owned, as the program asks it? (behind parse) -/
def progOwn (names : List (List UInt8)) (l w : List UInt8) (ns : List Nat) (gen shards : Int) : Bool :=
  if 0 < ns.length ∧ ((ns.headD 0 : Nat) : Int) ≠ gen then false else
  if w = [115] ∧ shards ≤ ((ns.getD 1 0 : Nat) : Int) then false else
  if ns.length = 3 ∧ shards ≤ ((ns.getD 2 0 : Nat) : Int) then false else
  if ns.length = 3 ∧ standsB names (l.take (lastIndexByte ⟨l.toArray⟩ 46).toNat) = false then false else true
theorem owned_none {names : List (List UInt8)} {l : List UInt8} {gen shards : Int} (h : shapeOk l = false) : ownedF names l gen shards = false := by
  unfold ownedF
  cases ho : oursF l with
  | false => rfl
  | true =>
    rw [← ours_shape, h, Bool.false_or, prefix_t, Bool.and_eq_true, decide_eq_true_eq] at ho
    unfold ownedW
    rw [if_pos ho.1]
    rfl
theorem owned_some {names : List (List UInt8)} {l : List UInt8} {gen shards : Int} {ns : List Nat} (hn : numsF (split46 l).tail = some ns) (h : shapeOk l = true) :
    ownedF names l gen shards = progOwn names l ((split46 l).headD []) ns gen shards := by
  have ho : oursF l = true := by rw [← ours_shape, h]; rfl
  unfold ownedF
  rw [ho, Bool.true_and]
  have hj := join_split l
  have hcl := split_clean l
  unfold shapeOk at h
  rw [hn] at h
  simp only at h
  cases hs : split46 l with
  | nil => exact absurd hs (split46_ne l)
  | cons x xs =>
    rw [hs] at h hn hj hcl
    simp only [List.tail_cons, List.headD_cons] at h hn ⊢
    have hl := numsF_len hn
    rcases isShape_iff h with ⟨rfl, h0⟩ | ⟨h0, h1⟩ | ⟨rfl, h1⟩ | ⟨rfl, h1⟩
    · have : ns = [] := List.eq_nil_of_length_eq_zero (by omega)
      subst this
      simp [ownedW, progOwn, bManifest]
    · match xs, ns, (by omega : xs.length = 1), (by omega : ns.length = 1) with
      | [p], [n], _, _ =>
        obtain ⟨a, e, hp⟩ := numsF_one hn
        simp only [List.cons.injEq, and_true] at e
        subst e
        have n0 : x ≠ [116] := by rcases h0 with rfl | rfl | rfl | rfl <;> decide
        have n1 : x ≠ bManifest := by rcases h0 with rfl | rfl | rfl | rfl <;> decide
        have n2 : x ≠ [115] := by rcases h0 with rfl | rfl | rfl | rfl <;> decide
        by_cases hg : (n : Int) = gen <;> simp [ownedW, progOwn, n0, n1, n2, hp, hg]
    · match xs, ns, (by omega : xs.length = 2), (by omega : ns.length = 2) with
      | [p, q], [n, m], _, _ =>
        obtain ⟨a, b, e, hp, hq⟩ := numsF_two hn
        simp only [List.cons.injEq, and_true] at e
        obtain ⟨rfl, rfl⟩ := e
        by_cases hg : (n : Int) = gen
        · by_cases hm : (m : Int) < shards
          · simp [ownedW, progOwn, bManifest, hp, hq, hg, hm]
          · have : shards ≤ (m : Int) := by omega
            simp [ownedW, progOwn, bManifest, hp, hq, hg, hm, this]
        · simp [ownedW, progOwn, bManifest, hp, hg]
    · rcases h1 with h1 | h1
      · match xs, ns, (by omega : xs.length = 2), (by omega : ns.length = 2) with
        | [p, q], [n, m], _, _ =>
          obtain ⟨a, b, e, hp, hq⟩ := numsF_two hn
          simp only [List.cons.injEq, and_true] at e
          obtain ⟨rfl, rfl⟩ := e
          by_cases hg : (n : Int) = gen <;> simp [ownedW, progOwn, bManifest, hp, hg]
      · match xs, ns, (by omega : xs.length = 3), (by omega : ns.length = 3) with
        | [p, q, r], [n, m, k], _, _ =>
          obtain ⟨a, b, c, e, hp, hq, hr⟩ := numsF_three hn
          simp only [List.cons.injEq, and_true] at e
          obtain ⟨rfl, rfl, rfl⟩ := e
          have hlast : l.take (lastIndexByte ⟨l.toArray⟩ 46).toNat = [120, 46] ++ p ++ [46] ++ q := by
            have e1 : l = ([120, 46] ++ p ++ [46] ++ q) ++ 46 :: r := by rw [← hj]; simp [joinF]
            have e2 := lastByte_join (s := ⟨l.toArray⟩) (a := [120, 46] ++ p ++ [46] ++ q) (b := r) e1 (hcl r (by simp))
            rw [e2, Int.toNat_natCast]
            conv => lhs; rw [e1]
            exact List.take_left' rfl
          unfold progOwn ownedW
          rw [hlast]
          by_cases hg : (n : Int) = gen
          · by_cases hm : (k : Int) < shards
            · have h3 : ¬ shards ≤ (k : Int) := by omega
              cases hst : standsB names ([120, 46] ++ p ++ [46] ++ q) <;> simp [bManifest, hp, hr, hg, hm, h3] <;> simpa using hst
            · have h3 : shards ≤ (k : Int) := by omega
              simp [bManifest, hp, hr, hg, hm, h3]
          · simp [bManifest, hp, hg]
/-! ### what strings.Split makes of a name -/
theorem splitK_46 : ∀ (l : List UInt8) (k : Nat), count l [46] = k → splitK [46] 0 k l = split46 l
  | [], k, h => by
    have : k = 0 := by rw [← h]; exact count_miss rfl
    subst this; rfl
  | c :: cs, k, h => by
    by_cases hc : c = 46
    · subst hc
      rw [count_cons_eq] at h
      obtain ⟨k', rfl⟩ : ∃ k', k = k' + 1 := ⟨k - 1, by omega⟩
      have ih := splitK_46 cs k' (by omega)
      have hix : index (46 :: cs) [46] = 0 := by rw [index]; simp [List.isPrefixOf]
      rw [splitK, hix, if_neg (by decide), split46, if_pos rfl, ← ih]
      rfl
    · rw [count_cons_ne c 46 cs hc] at h
      have ih := splitK_46 cs k h
      have hp : ([46] : List UInt8).isPrefixOf (c :: cs) = false := by simp [List.isPrefixOf, Ne.symm hc]
      have hix : index (c :: cs) [46] = if index cs [46] == -1 then -1 else index cs [46] + 1 := by rw [index, hp]; simp
      rw [split46, if_neg hc, ← ih]
      cases k with
      | zero => rfl
      | succ k =>
        have hge := index_ge cs [46]
        by_cases hm : index cs [46] = -1
        · rw [count_miss hm] at h; omega
        · obtain ⟨j, hj⟩ : ∃ j : Nat, index cs [46] = j := ⟨(index cs [46]).toNat, by omega⟩
          have e1 : ((j : Int) == -1) = false := beq_false_of_ne (by omega)
          rw [hj, e1, if_neg (by decide)] at hix
          have e2 : ((j : Int) + 1 == -1) = false := beq_false_of_ne (by omega)
          have e3 : ((j : Int) + 1).toNat = j + 1 := by omega
          rw [splitK, splitK, hix, hj, e1, e2, if_neg (by decide), if_neg (by decide), e3, Int.toNat_natCast]
          simp
theorem splitB_46 (s : ByteArray) : (splitB ⟨#[46]⟩ 0 (countB s ⟨#[46]⟩) s).map Value.string = strs (split46 s.data.toList) := by
  have h := splitB_data ⟨#[46]⟩ 0 (countB s ⟨#[46]⟩) s
  rw [show (⟨#[46]⟩ : ByteArray).data.toList = [46] from rfl, splitK_46 s.data.toList _ rfl] at h
  rw [← h, strs, List.map_map]
  apply List.map_congr_left
  intro b _
  exact (strV_of b).symm
end Go.Proofs.YtgbladpoglhleaaGreatDoor
