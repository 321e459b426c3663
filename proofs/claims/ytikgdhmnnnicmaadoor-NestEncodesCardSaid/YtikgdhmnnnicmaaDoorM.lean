/- Maps in memory, as lists of keys and values: made, looked into, written, gone through. No condition. -/
import Derived.Test.YtikgdhmnnnicmaaDoorB
import Derived.Maps.RangeWalk
import Derived.Maps.OwnOps
namespace Go.Proofs.YtikgdhmnnnicmaaDoor
open Go.RowKit
open Go.ChangeMaps (setBlock)

/-- What is asked of a type of keys: they are no panicking keys, are found by sameness, and a key stays as it is. -/
structure KeyEnc (P : Program) (kt : TypeId) {κ : Type} (enc : κ → Value) : Prop where
  chk : ∀ x b w, (Instr.checkKey b 10000 kt (enc x)).run P w = .ok () w
  find : ∀ x (es : List MapEntry) (ks : List κ) w, es.map (·.key) = ks.map enc →
    (x ∉ ks ∧ (Instr.findKey kt (enc x) es).run P w = .ok none w) ∨ ∃ (i : Nat) (e : MapEntry), ks[i]? = some x ∧ es[i]? = some e ∧ (Instr.findKey kt (enc x) es).run P w = .ok (some (i, e.val)) w
  bits : ∀ x, Instr.sameBits 10000 (enc x) (enc x) = true
  inj : ∀ x y, enc x = enc y → x = y

theorem findNow_int (k : IntKind) (a : Int) (es : List MapEntry) : ∀ (ks : List Int) (n : Nat), es.map (·.key) = ks.map (Value.int k) →
    (a ∉ ks ∧ Instr.findNow (.int k) (.int k a) es n = some none) ∨ ∃ (i : Nat) (e : MapEntry), ks[i]? = some a ∧ es[i]? = some e ∧ Instr.findNow (.int k) (.int k a) es n = some (some (n + i, e.val)) := by
  induction es with
  | nil =>
    intro ks n h
    cases ks with
    | nil => exact .inl ⟨by simp, rfl⟩
    | cons q ks => cases h
  | cons e es ih =>
    intro ks n h
    cases ks with
    | nil => cases h
    | cons q ks =>
      simp only [List.map_cons, List.cons.injEq] at h
      obtain ⟨h1, h2⟩ := h
      by_cases ha : a = q
      · subst ha
        exact .inr ⟨0, e, rfl, rfl, by simp [Instr.findNow, h1, Instr.sameNow]⟩
      · have hf : (a == q) = false := by simpa using ha
        rcases ih ks (n + 1) h2 with ⟨h3, h4⟩ | ⟨i, e', h3, h4, h5⟩
        · exact .inl ⟨by simp [ha, h3], by simp [Instr.findNow, h1, Instr.sameNow, hf, h4]⟩
        · exact .inr ⟨i + 1, e', by simpa using h3, by simpa using h4, by simp [Instr.findNow, h1, Instr.sameNow, hf, h5]; omega⟩

theorem key_int {P : Program} {kt : TypeId} (hk : P.underlying kt = some (.int .i64)) : KeyEnc P kt (Value.int .i64) where
  chk x b w := by
    rw [show (10000 : Nat) = 9999 + 1 from rfl]
    unfold Instr.checkKey
    simp [run_underlying hk]
  find x es ks w h := by
    unfold Instr.findKey
    rcases findNow_int .i64 x es ks 0 h with ⟨h1, h2⟩ | ⟨i, e, h1, h2, h3⟩
    · exact .inl ⟨h1, by simp [run_underlying hk, h2]⟩
    · exact .inr ⟨i, e, h1, h2, by simp [run_underlying hk, h3]⟩
  bits x := by
    rw [show (10000 : Nat) = 9999 + 1 from rfl]
    simp [Instr.sameBits]
  inj x y h := by cases h; rfl

/-- The keys of two whole numbers. -/
def enc2 (x : Int × Int) : Value := .agg #[.int .i64 x.1, .int .i64 x.2]
theorem run_part2 {P : Program} {it : TypeId} (ha : ∀ w, (isAgg it).run P w = .ok false w) (x y : Value) (w : World) : (part it #[x, y] 0).run P w = .ok x w ∧ (part it #[x, y] 1).run P w = .ok y w := by
  constructor <;> (unfold part; simp [ha])
theorem run_equalIn2 {P : Program} {kt it : TypeId} (hk : P.underlying kt = some (.array 2 it)) (hi : P.underlying it = some (.int .i64)) (hs : ∀ w, (sizeOf it).run P w = .ok 1 w) (ha : ∀ w, (isAgg it).run P w = .ok false w) (a b c d : Int) (w : World) (n : Nat) :
    (Op.equalIn (n + 2) kt (enc2 (a, b)) (enc2 (c, d))).run P w = .ok (a == c && b == d) w := by
  have h1 : ∀ (u v : Int) (w : World), (Op.equalIn (n + 1) it (.int .i64 u) (.int .i64 v)).run P w = .ok (u == v) w := fun u v w => by
    unfold Op.equalIn
    simp [run_underlying hi]
  unfold Op.equalIn enc2
  by_cases h2 : a = c <;> by_cases h3 : b = d <;> simp [run_underlying hk, hs, Std.Legacy.Range.forIn_eq_forIn_range', List.range', run_part2 ha, h1, h2, h3]
theorem run_equal2 {P : Program} {kt it : TypeId} (hk : P.underlying kt = some (.array 2 it)) (hi : P.underlying it = some (.int .i64)) (hs : ∀ w, (sizeOf it).run P w = .ok 1 w) (ha : ∀ w, (isAgg it).run P w = .ok false w) (x y : Int × Int) (w : World) :
    (Op.equal kt (enc2 x) (enc2 y)).run P w = .ok (decide (x = y)) w := by
  have h := run_equalIn2 hk hi hs ha x.1 x.2 y.1 y.2 w 9998
  unfold Op.equal Op.maxDepth
  rw [show (10000 : Nat) = 9998 + 2 from rfl, h]
  congr 1
  obtain ⟨a, b⟩ := x
  obtain ⟨c, d⟩ := y
  by_cases h1 : a = c <;> by_cases h2 : b = d <;> simp [h1, h2]
theorem run_checkKey2 {P : Program} {kt it : TypeId} (hk : P.underlying kt = some (.array 2 it)) (hi : P.underlying it = some (.int .i64)) (hs : ∀ w, (sizeOf it).run P w = .ok 1 w) (ha : ∀ w, (isAgg it).run P w = .ok false w) (x : Int × Int) (b : Bool) (w : World) (n : Nat) :
    (Instr.checkKey b (n + 2) kt (enc2 x)).run P w = .ok () w := by
  have h1 : ∀ (u : Int) (w : World), (Instr.checkKey b (n + 1) it (.int .i64 u)).run P w = .ok () w := fun u w => by
    unfold Instr.checkKey
    simp [run_underlying hi]
  unfold Instr.checkKey enc2
  simp [run_underlying hk, hs, Std.Legacy.Range.forIn_eq_forIn_range', List.range', run_part2 ha, h1]
theorem findAsking2 {P : Program} {kt it : TypeId} (hk : P.underlying kt = some (.array 2 it)) (hi : P.underlying it = some (.int .i64)) (hs : ∀ w, (sizeOf it).run P w = .ok 1 w) (ha : ∀ w, (isAgg it).run P w = .ok false w) (x : Int × Int) (w : World) (es : List MapEntry) : ∀ (ks : List (Int × Int)) (n : Nat), es.map (·.key) = ks.map enc2 →
    (x ∉ ks ∧ (Instr.findAsking kt (enc2 x) es n).run P w = .ok none w) ∨ ∃ (i : Nat) (e : MapEntry), ks[i]? = some x ∧ es[i]? = some e ∧ (Instr.findAsking kt (enc2 x) es n).run P w = .ok (some (n + i, e.val)) w := by
  induction es with
  | nil =>
    intro ks n h
    cases ks with
    | nil => exact .inl ⟨by simp, rfl⟩
    | cons q ks => cases h
  | cons e es ih =>
    intro ks n h
    cases ks with
    | nil => cases h
    | cons q ks =>
      simp only [List.map_cons, List.cons.injEq] at h
      obtain ⟨h1, h2⟩ := h
      have he := run_equal2 hk hi hs ha x q w
      by_cases hx : x = q
      · subst hx
        exact .inr ⟨0, e, rfl, rfl, by simp [Instr.findAsking, h1, he]⟩
      · rw [decide_eq_false hx] at he
        rcases ih ks (n + 1) h2 with ⟨h3, h4⟩ | ⟨i, e', h3, h4, h5⟩
        · exact .inl ⟨by simp [hx, h3], by simp [Instr.findAsking, h1, he, h4]⟩
        · exact .inr ⟨i + 1, e', by simpa using h3, by simpa using h4, by simp [Instr.findAsking, h1, he, h5]; omega⟩
theorem key_two {P : Program} {kt it : TypeId} (hk : P.underlying kt = some (.array 2 it)) (hi : P.underlying it = some (.int .i64)) (hs : ∀ w, (sizeOf it).run P w = .ok 1 w) (ha : ∀ w, (isAgg it).run P w = .ok false w) : KeyEnc P kt enc2 where
  chk x b w := run_checkKey2 hk hi hs ha x b w 9998
  find x es ks w h := by
    unfold Instr.findKey
    cases es with
    | nil =>
      cases ks with
      | nil => exact .inl ⟨by simp, by simp [run_underlying hk, Instr.findNow]⟩
      | cons q ks => cases h
    | cons e es =>
      have hn : Instr.findNow (.array 2 it) (enc2 x) (e :: es) 0 = none := rfl
      rcases findAsking2 hk hi hs ha x w (e :: es) ks 0 h with ⟨h1, h2⟩ | ⟨i, e', h1, h2, h3⟩
      · exact .inl ⟨h1, by simp only [Sem.run_bind, run_underlying hk, Result.andThen_ok, hn]; exact h2⟩
      · exact .inr ⟨i, e', h1, h2, by simp only [Sem.run_bind, run_underlying hk, Result.andThen_ok, hn]; simpa using h3⟩
  bits x := by
    rw [show (10000 : Nat) = 9998 + 1 + 1 from rfl]
    simp [Instr.sameBits, enc2]
  inj x y h := by
    unfold enc2 at h
    simp only [Value.agg.injEq, Array.mk.injEq, List.cons.injEq, Value.int.injEq, true_and, and_true] at h
    exact Prod.ext h.1 h.2

/-! ### a map in memory -/
section
variable {P : Program} {kt : TypeId} {κ : Type} {enc : κ → Value} {w w' : World} {b : Nat} {m left : List (κ × Value)} {r : Nat}
/-- The map in block b holds just these keys with these values, in the order in which they came. -/
def MapIs (enc : κ → Value) (w : World) (b : Nat) (m : List (κ × Value)) : Prop :=
  ∃ es clock, w.heap[b]? = some (.map es clock) ∧ es.toList.map (fun e => (e.key, e.val)) = m.map (fun p => (enc p.1, p.2)) ∧ (m.map (·.1)).Nodup ∧ (es.toList.map (·.born)).Nodup ∧ (∀ e ∈ es.toList, e.born < clock)
def mget [DecidableEq κ] (m : List (κ × Value)) (x : κ) : Option Value := (m.find? fun p => decide (p.1 = x)).map (·.2)
def mput [DecidableEq κ] (m : List (κ × Value)) (x : κ) (v : Value) : List (κ × Value) := if x ∈ m.map (·.1) then m.map (fun p => if p.1 = x then (x, v) else p) else m ++ [(x, v)]
theorem MapIs.lt (h : MapIs enc w b m) : b < w.heap.size := let ⟨_, _, h, _⟩ := h; blk_lt h
theorem MapIs.kept (h : MapIs enc w b m) (hb : w'.heap[b]? = w.heap[b]?) : MapIs enc w' b m := let ⟨es, c, h1, h2⟩ := h; ⟨es, c, hb.trans h1, h2⟩
theorem MapIs.below (h : MapIs enc w b m) (hb : Below w.heap.size w w') : MapIs enc w' b m := h.kept (hb.block b h.lt)
theorem MapIs.made (enc : κ → Value) (w : World) : MapIs enc (w.alloc (.map #[] 0)) w.heap.size [] := ⟨#[], 0, heap_alloc_new w _, rfl, by simp, by simp, by simp⟩
theorem mget_none [DecidableEq κ] {x : κ} (h : x ∉ m.map (·.1)) : mget m x = none := by
  unfold mget
  rw [List.find?_eq_none.2, Option.map_none]
  intro p hp
  simp only [decide_eq_true_eq]
  rintro rfl
  exact h (List.mem_map_of_mem hp)
theorem mget_at [DecidableEq κ] {x : κ} {v : Value} (hn : (m.map (·.1)).Nodup) (h : (x, v) ∈ m) : mget m x = some v := by
  unfold mget
  induction m with
  | nil => cases h
  | cons p m ih =>
    simp only [List.map_cons, List.nodup_cons] at hn
    rcases List.mem_cons.1 h with rfl | h
    · simp
    · have : p.1 ≠ x := by rintro rfl; exact hn.1 (List.mem_map_of_mem (f := (·.1)) h)
      rw [List.find?_cons_of_neg (by simpa using this)]
      exact ih hn.2 h
theorem keys_of {es : Array MapEntry} (h : es.toList.map (fun e => (e.key, e.val)) = m.map (fun p => (enc p.1, p.2))) : es.toList.map (·.key) = (m.map (·.1)).map enc ∧ es.toList.map (·.val) = m.map (·.2) := by
  constructor
  · have := congrArg (List.map Prod.fst) h
    simpa [List.map_map, Function.comp_def] using this
  · have := congrArg (List.map Prod.snd) h
    simpa [List.map_map, Function.comp_def] using this
theorem val_at {es : Array MapEntry} (h : es.toList.map (fun e => (e.key, e.val)) = m.map (fun p => (enc p.1, p.2))) {i : Nat} {x : κ} {e : MapEntry} (h1 : (m.map (·.1))[i]? = some x) (h2 : es.toList[i]? = some e) : (x, e.val) ∈ m ∧ e.key = enc x := by
  have h3 := congrArg (fun l => l[i]?) h
  simp only [List.getElem?_map] at h1 h3
  rw [h2] at h3
  cases hm : m[i]? with
  | none => rw [hm] at h1; cases h1
  | some p =>
    rw [hm] at h1 h3
    simp at h1 h3
    obtain ⟨a, b⟩ := p
    simp at h1 h3
    subst h1
    obtain ⟨h3, rfl⟩ := h3
    exact ⟨List.mem_of_getElem? hm, h3⟩
/-- m[x]. -/
theorem map_look [DecidableEq κ] (K : KeyEnc P kt enc) (h : MapIs enc w b m) {t e : TypeId} (ht : P.underlying t = some (.map kt e)) {z : Value} (hz : ∀ w, (zeroValue e).run P w = .ok z w) (x : κ) (ok : Bool) :
    (Instr.lookup t (.map (some b)) (enc x) ok).run P w = .ok (if ok then .tuple #[(mget m x).getD z, .bool (mget m x).isSome] else (mget m x).getD z) w := by
  obtain ⟨es, clock, hb, he, hn, hs, hc⟩ := h
  obtain ⟨hk, hv⟩ := keys_of he
  rcases K.find x es.toList (m.map (·.1)) w hk with ⟨h1, h2⟩ | ⟨i, e', h1, h2, h3⟩
  · rw [mget_none h1]
    simp [Instr.lookup, run_underlying ht, MapKept.run_getObj_map hb, K.chk, h2, hz, Result.andThen]
  · rw [mget_at hn (val_at he h1 h2).1]
    simp [Instr.lookup, run_underlying ht, MapKept.run_getObj_map hb, K.chk, h3, Result.andThen]
theorem run_keyThatStays (K : KeyEnc P kt enc) (x : κ) (w : World) : (Instr.keyThatStays (enc x) (enc x)).run P w = .ok (enc x) w := by
  unfold Instr.keyThatStays
  simp [K.bits x]
theorem mput_keys [DecidableEq κ] (m : List (κ × Value)) (x : κ) (v : Value) : (mput m x v).map (·.1) = if x ∈ m.map (·.1) then m.map (·.1) else m.map (·.1) ++ [x] := by
  unfold mput
  by_cases h : x ∈ m.map (·.1)
  · rw [if_pos h, if_pos h, List.map_map]
    refine List.map_congr_left fun p _ => ?_
    simp only [Function.comp]
    split
    · rename_i e; exact e.symm
    · rfl
  · rw [if_neg h, if_neg h, List.map_append]; rfl
theorem mput_nodup [DecidableEq κ] (hn : (m.map (·.1)).Nodup) (x : κ) (v : Value) : ((mput m x v).map (·.1)).Nodup := by
  rw [mput_keys]
  split
  · exact hn
  · rename_i h
    rw [List.nodup_append]
    exact ⟨hn, by simp, fun a ha b hb => by simp at hb; subst hb; rintro rfl; exact h ha⟩
/-- m[x] = v. -/
theorem map_put [DecidableEq κ] (K : KeyEnc P kt enc) (h : MapIs enc w b m) {t e : TypeId} (ht : P.underlying t = some (.map kt e)) (x : κ) (v : Value) :
    ∃ w', (Instr.mapUpdate t (.map (some b)) (enc x) v).run P w = .ok () w' ∧ MapIs enc w' b (mput m x v) ∧ w.grownBy w' (some b) ∧ w'.heap.size = w.heap.size := by
  obtain ⟨es, clock, hb, he, hn, hs, hc⟩ := h
  obtain ⟨hk, hv⟩ := keys_of he
  have gb : ∀ o : Obj, w.grownBy { w with heap := w.heap.setIfInBounds b o } (some b) ∧ ({ w with heap := w.heap.setIfInBounds b o } : World).heap.size = w.heap.size := fun o =>
    ⟨⟨rfl, rfl, rfl, by simp, fun i _ hi => (MapKept.heap_set (o' := o) hb).2 i (fun e => hi (by rw [e]))⟩, by simp⟩
  rcases K.find x es.toList (m.map (·.1)) w hk with ⟨h1, h2⟩ | ⟨i, e', h1, h2, h3⟩
  · refine ⟨_, by simp [Instr.mapUpdate, run_underlying ht, MapKept.run_getObj_map hb, K.chk, h2, MapKept.run_setObj_map _ hb, Result.andThen], ⟨es.push ⟨enc x, v, clock⟩, clock + 1, (MapKept.heap_set hb).1, ?_, mput_nodup hn x v, ?_, ?_⟩, (gb _).1, (gb _).2⟩
    · unfold mput
      rw [if_neg h1]
      simp [he]
    · simp only [Array.toList_push, List.map_append, List.map_cons, List.map_nil, List.nodup_append]
      refine ⟨hs, by simp, fun a ha c hc' => ?_⟩
      simp at hc'
      subst hc'
      obtain ⟨e, he', rfl⟩ := List.mem_map.1 ha
      have := hc e he'
      omega
    · intro e he'
      simp only [Array.toList_push, List.mem_append, List.mem_singleton] at he'
      rcases he' with he' | rfl
      · have := hc e he'; omega
      · simp
  · obtain ⟨hm, hke⟩ := val_at he h1 h2
    have hx : x ∈ m.map (·.1) := List.mem_of_getElem? h1
    have hi : i < es.size := by have := (List.getElem?_eq_some_iff.1 h2).1; simpa using this
    refine ⟨{ w with heap := w.heap.setIfInBounds b (.map (es.modify i fun e => { e with key := enc x, val := v }) clock) }, ?_, ⟨es.modify i fun e => { e with key := enc x, val := v }, clock, (MapKept.heap_set hb).1, ?_, mput_nodup hn x v, ?_, ?_⟩, (gb _).1, (gb _).2⟩
    · have h4 : (es[i]?.map (·.key)).getD (enc x) = enc x := by
        have : es[i]? = some e' := by simpa using h2
        rw [this]; exact hke
      simp [Instr.mapUpdate, run_underlying ht, MapKept.run_getObj_map hb, K.chk, h3, h4, run_keyThatStays K, MapKept.run_setObj_map _ hb, Result.andThen]
    · unfold mput
      rw [if_pos hx, Array.toList_modify]
      refine List.ext_getElem? fun j => ?_
      have hj := congrArg (fun l => l[j]?) he
      simp only [List.getElem?_map, List.getElem?_modify] at hj ⊢
      have hmi : (m.map (·.1))[i]? = some x := h1
      by_cases hij : i = j
      · subst hij
        rw [h2] at hj ⊢
        cases hmm : m[i]? with
        | none => rw [hmm] at hj; cases hj
        | some p =>
          simp only [List.getElem?_map, hmm, Option.map_some, Option.some.injEq] at hmi
          simp [hmi]
      · simp only [if_neg hij] 
        cases hmm : m[j]? with
        | none => rw [hmm] at hj; simpa using hj
        | some p =>
          rw [hmm] at hj
          have hne : p.1 ≠ x := by
            rintro rfl
            have h5 : (m.map (·.1))[j]? = some p.1 := by simp [hmm]
            exact hij ((List.getElem?_inj (by have := (List.getElem?_eq_some_iff.1 h1).1; exact this) hn).1 (h1.trans h5.symm))
          simpa [hne] using hj
    · rw [Array.toList_modify]
      have : (es.toList.modify i fun e => { e with key := enc x, val := v }).map (·.born) = es.toList.map (·.born) := by
        refine List.ext_getElem? fun j => ?_
        simp only [List.getElem?_map, List.getElem?_modify]
        by_cases hij : i = j
        · subst hij; rw [h2]; simp
        · simp [hij]
      rw [this]
      exact hs
    · intro e he'
      rw [Array.toList_modify] at he'
      obtain ⟨j, hj⟩ := List.mem_iff_getElem?.1 he'
      rw [List.getElem?_modify] at hj
      cases hq : es.toList[j]? with
      | none => rw [hq] at hj; cases hj
      | some q =>
        rw [hq] at hj
        have h6 := hc q (List.mem_of_getElem? hq)
        by_cases hij : i = j
        · simp [hij] at hj; subst hj; exact h6
        · simp [hij] at hj; subst hj; exact h6

/-! ### a map gone through -/
/-- The iterator r goes through the map b, which holds m; what it has still to tell is left. -/
def Going (enc : κ → Value) (w : World) (b r : Nat) (m left : List (κ × Value)) : Prop :=
  r ≠ b ∧ ∃ es clock since seen, w.heap[r]? = some (.mapIter (some b) since seen clock) ∧ w.heap[b]? = some (.map es clock) ∧ es.toList.map (fun e => (e.key, e.val)) = m.map (fun p => (enc p.1, p.2)) ∧ (m.map (·.1)).Nodup ∧ (es.toList.map (·.born)).Nodup ∧ (∀ e ∈ es.toList, e.born < clock) ∧
    (∀ e ∈ es.toList, e.born < since) ∧ since ≤ clock ∧ ((leftOf es seen).toList.map fun e => (e.key, e.val)).Perm (left.map fun p => (enc p.1, p.2))
theorem Going.is (h : Going enc w b r m left) : MapIs enc w b m := by
  obtain ⟨_, es, clock, since, seen, h1, h2, h3, h4, h5, h6, _⟩ := h
  exact ⟨es, clock, h2, h3, h4, h5, h6⟩
theorem Going.kept (h : Going enc w b r m left) (hb : w'.heap[b]? = w.heap[b]?) (hr : w'.heap[r]? = w.heap[r]?) : Going enc w' b r m left := by
  obtain ⟨h0, es, clock, since, seen, h1, h2, h3⟩ := h
  exact ⟨h0, es, clock, since, seen, hr.trans h1, hb.trans h2, h3⟩
theorem Going.lt (h : Going enc w b r m left) : b < w.heap.size ∧ r < w.heap.size := by
  obtain ⟨_, es, clock, since, seen, h1, h2, _⟩ := h
  exact ⟨blk_lt h2, blk_lt h1⟩
theorem perm_pick {α β : Type} [BEq β] [LawfulBEq β] (f : α → β) (l : List α) (hn : (l.map f).Nodup) (a : α) (ha : a ∈ l) : l.Perm (a :: l.filter fun x => !(f x == f a)) := by
  induction l with
  | nil => cases ha
  | cons c l ih =>
    simp only [List.map_cons, List.nodup_cons] at hn
    rcases List.mem_cons.1 ha with rfl | ha
    · rw [List.filter_cons_of_neg (by simp), List.filter_eq_self.2]
      intro x hx
      have : f x ≠ f a := fun e => hn.1 (e ▸ List.mem_map_of_mem hx)
      simpa using this
    · have : f c ≠ f a := fun e => hn.1 (e ▸ List.mem_map_of_mem ha)
      rw [List.filter_cons_of_pos (by simpa using this)]
      exact ((ih hn.2 ha).cons c).trans (.swap _ _ _)
theorem left_pick (es : Array MapEntry) (seen : Array Nat) (hs : (es.toList.map (·.born)).Nodup) (e : MapEntry) (he : e ∈ (leftOf es seen).toList) :
    (leftOf es seen).toList.Perm (e :: (leftOf es (seen.push e.born)).toList) := by
  have h1 : ((leftOf es seen).toList.map (·.born)).Nodup := by
    unfold leftOf
    rw [Array.toList_filter]
    exact (List.filter_sublist.map _).nodup hs
  have h2 := perm_pick (·.born) (leftOf es seen).toList h1 e he
  have h3 : (leftOf es (seen.push e.born)).toList = (leftOf es seen).toList.filter fun x => !(x.born == e.born) := by
    unfold leftOf
    rw [Array.toList_filter, Array.toList_filter, List.filter_filter]
    refine List.filter_congr fun x _ => ?_
    rw [contains_push]
    cases seen.contains x.born <;> cases (x.born == e.born) <;> rfl
  rw [h3]
  exact h2
/-- for .. := range m. -/
theorem map_range (h : MapIs enc w b m) {t e : TypeId} (ht : P.underlying t = some (.map kt e)) :
    ∃ w', (Instr.range t (.map (some b))).run P w = .ok (.pointer (some ⟨w.heap.size, 0, none⟩)) w' ∧ Going enc w' b w.heap.size m m ∧ Below w.heap.size w w' ∧ w'.heap.size = w.heap.size + 1 := by
  have hlt := h.lt
  obtain ⟨es, clock, hb, he, hn, hs, hc⟩ := h
  refine ⟨_, run_range_map w t kt e b es clock ht hb, ⟨by omega, es, clock, clock, #[], heap_alloc_new w _, (Below.heap_alloc w _ b hlt).trans hb, he, hn, hs, hc, hc, Nat.le_refl _, ?_⟩, (Below.refl _ w).alloc (Nat.le_refl _) _, by simp⟩
  have : (leftOf es #[]).toList = es.toList := by
    unfold leftOf
    rw [Array.toList_filter]
    exact List.filter_eq_self.2 (by simp)
  rw [this, he]
/-- One step of it: nothing is left, or one of what is left comes. -/
theorem map_next (h : Going enc w b r m left) (ty : TypeId) :
    (left = [] ∧ (Instr.next (.pointer (some ⟨r, 0, none⟩)) false ty).run P w = .ok (.tuple #[.bool false]) w) ∨
    ∃ x v left' w', left.Perm ((x, v) :: left') ∧ (Instr.next (.pointer (some ⟨r, 0, none⟩)) false ty).run P w = .ok (.tuple #[.bool true, enc x, v]) w' ∧ Going enc w' b r m left' ∧ w.grownBy w' (some r) ∧ w'.heap.size = w.heap.size ∧
      (Instr.entry (.pointer (some ⟨r, 0, none⟩))).run P w' = .ok (.tuple #[enc x, v]) w' := by
  obtain ⟨hne, es, clock, since, seen, hr, hb, he, hn, hs, hc, hold, hsc, hp⟩ := h
  rcases run_next_at (P := P) w ty r b since clock seen es clock hr hb hold hsc with ⟨h0, hrun⟩ | ⟨e, hm, w1, hal, hrun⟩
  · refine .inl ⟨?_, hrun⟩
    have h2 : leftOf es seen = #[] := Array.eq_empty_of_size_eq_zero h0
    rw [h2] at hp
    exact List.eq_nil_of_length_eq_zero (by simpa using hp.length_eq.symm)
  · have hem := (mem_left hm).1
    have hpk := (left_pick es seen hs e hm).map fun e => (e.key, e.val)
    have h3 : (e.key, e.val) ∈ left.map fun p => (enc p.1, p.2) := hp.mem_iff.1 (List.mem_map_of_mem (f := fun e : MapEntry => (e.key, e.val)) hm)
    obtain ⟨⟨x, v⟩, hx, hxe⟩ := List.mem_map.1 h3
    simp only [Prod.mk.injEq] at hxe
    obtain ⟨l1, l2, rfl⟩ := List.append_of_mem hx
    have hr1 : w1.heap[r]? = some (.mapIter (some b) since seen clock) := by rcases hal with rfl | rfl <;> exact hr
    have hb1 : w1.heap[b]? = some (.map es clock) := by rcases hal with rfl | rfl <;> exact hb
    have hset := MapKept.heap_set (o' := .mapIter (some b) since (seen.push e.born) clock) hr1
    have hb' : (setBlock w1 r (.mapIter (some b) since (seen.push e.born) clock)).heap[b]? = some (.map es clock) := (hset.2 b (fun e1 => hne e1.symm)).trans hb1
    have hpm : (l1 ++ (x, v) :: l2).Perm ((x, v) :: (l1 ++ l2)) := List.perm_middle
    refine .inr ⟨x, v, l1 ++ l2, _, hpm, by rw [hxe.1, hxe.2]; exact hrun, ⟨hne, es, clock, since, seen.push e.born, hset.1, hb', he, hn, hs, hc, hold, hsc, ?_⟩, ?_, ?_, ?_⟩
    · have h4 := (hpk.symm.trans hp).trans (hpm.map fun p => (enc p.1, p.2))
      simp only [List.map_cons, hxe.1, hxe.2] at h4
      exact (List.perm_cons _).1 h4
    · rcases hal with rfl | rfl <;> exact ⟨rfl, rfl, rfl, by simp [setBlock], fun i _ hi => hset.2 i (fun e1 => hi (by rw [e1]))⟩
    · rcases hal with rfl | rfl <;> simp [setBlock]
    · rw [hxe.1, hxe.2]
      exact run_entry_at _ r b since seen es clock e hset.1 hb' hem hs
end
end Go.Proofs.YtikgdhmnnnicmaaDoor
