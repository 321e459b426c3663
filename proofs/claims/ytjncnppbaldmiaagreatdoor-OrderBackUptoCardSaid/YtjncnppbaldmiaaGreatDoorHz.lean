/- That the hook of a payload read under a deferred call says what the function does. No condition. -/
import Derived.Test.YtjncnppbaldmiaaGreatDoorGa
import Derived.Test.YtjncnppbaldmiaaGreatDoorShelfM
import Derived.Sort.KeysCollected
import Derived.StringKeys
import Derived.RangeFuncNested
import Derived.RangeFuncBound
import Derived.RangeFuncCalls
import Derived.RangeFuncLeaves
import Derived.OwnWalkIn
import Derived.TacticsInMore
import Derived.LoopNIn
import Derived.LoopIn
import Derived.Test.YtjncnppbaldmiaaGreatDoorHk
import Derived.RecoverIn
namespace Go.Proofs.YtjncnppbaldmiaaGreatDoor
section
open Go.RowKit Go.Maps Go.Sort Go.Shelf
attribute [local go_sem] Oper.semAt_some
/-- A reader of elements that asks nothing. -/
def anyFile (_ : Value) : Option (DataW Unit × List MemPlace) := some (.lit (.bool true), [])
def keyL (e : MapEntry) : List UInt8 :=
  match e.key with
  | .string s => s.data.toList
  | _ => []
/-- The names of a directory, in order. -/
def namesL (es : List MapEntry) : List (List UInt8) := (es.map keyL).mergeSort fun x y => decide (x ≤ y)
theorem names_perm {xs ys : List (List UInt8)} (h : xs.Perm ys) : xs.mergeSort (fun x y => decide (x ≤ y)) = ys.mergeSort fun x y => decide (x ≤ y) := by
  have tr : ∀ a b c : List UInt8, decide (a ≤ b) = true → decide (b ≤ c) = true → decide (a ≤ c) = true := fun a b c h1 h2 => by simp only [decide_eq_true_eq] at *; exact List.le_trans h1 h2
  have tt : ∀ a b : List UInt8, (decide (a ≤ b) || decide (b ≤ a)) = true := fun a b => by simp only [Bool.or_eq_true, decide_eq_true_eq]; exact List.le_total a b
  refine List.Perm.eq_of_pairwise (le := fun a b => decide (a ≤ b) = true) (fun a b _ _ h1 h2 => by simp only [decide_eq_true_eq] at h1 h2; exact List.le_antisymm h1 h2) (List.pairwise_mergeSort tr tt xs) (List.pairwise_mergeSort tr tt ys) ?_
  exact (List.mergeSort_perm xs _).trans (h.trans (List.mergeSort_perm ys _).symm)
theorem dir_owns {w : World} {b clock : Nat} {es : Array MapEntry} (hb : w.heap[b]? = some (.map es clock)) (h : DirE es.toList clock) (hk : ∀ e ∈ es.toList, (keyL e).length ≤ maxLen) (hl : es.size ≤ maxLen) :
    ∃ D : DataW Unit, w.ownsMap Tryz.prog 9 anyFile b es.size D ∧ (strKeys D).Perm (es.toList.map keyL) ∧ Maps.size D = es.size := by
  have hrd : ∀ x ∈ es.toList, ∃ s : ByteArray, x.key = .string s ∧ Go.WideElems.rd Tryz.prog 9 anyFile x = some (.string s.data.toList, .lit (.bool true)) := fun x hx => by
    obtain ⟨s, hs⟩ := h.key x hx
    refine ⟨s, hs, ?_⟩
    have := hk x hx
    unfold keyL at this
    rw [hs] at this
    unfold Go.WideElems.rd
    rw [hs, Go.WideMaps.keyOf_string_mk Tryz.underlying9 (by simpa using this)]
    rfl
  refine ⟨_, ⟨es, clock, hb, ⟨by omega, ⟨h.born, h.nd, ?_⟩, fun x hx => ?_⟩, Nat.le_refl _, rfl⟩, ?_, ?_⟩
  · show (es.toList.map (fun x => x.key)).Nodup
    rw [List.Nodup, List.pairwise_map]
    exact h.one
  · obtain ⟨s, _, h1⟩ := hrd x hx
    exact ⟨_, h1⟩
  · simp only [strKeys]
    refine ((Go.WideShapes.sorted_perm _).map _).trans (List.Perm.of_eq ?_)
    rw [List.map_map]
    refine List.map_congr_left fun x hx => ?_
    obtain ⟨s, hs, h1⟩ := hrd x hx
    simp only [Function.comp_apply, Go.WideElems.rg, h1, Option.getD_some, keyL, hs, strOf]
  · simp only [Maps.size]
    rw [(Go.WideShapes.sorted_perm _).length_eq]
    simp
theorem keysDir_any (mb : Option Nat) (w : World) : Calls Tryz.prog 144 #[.map mb] w fun e w' => e = .returned (.func (.func 175) #[] #[.pointer (some ⟨w.heap.size, 0, none⟩)]) ∧ w' = w.alloc (.cells #[.map mb] 121) :=
  (callsIn_wide (n := 5)).1 (AnyZ.keys_in Tryz.keysS Fence.wide 5 trivial rfl mb w)
theorem sortsS_any (m : Nat) : AnyZ.SortsIn Tryz.prog Tryz.sortedS_ren Fence.wide m :=
  ⟨fun blk off cap ss W hH hblk hsz => callsIn_wide.2 (AnyM.slices_Sort_string Tryz.sortS blk off cap ss W hH hblk hsz), fun p cap W => callsIn_wide.2 (AnyM.slices_Sort_string_none Tryz.sortS p cap W)⟩
theorem sortedDir_any {w : World} {b clock : Nat} {es : Array MapEntry} (hb : w.heap[b]? = some (.map es clock)) (h : DirE es.toList clock) (hk : ∀ e ∈ es.toList, (keyL e).length ≤ maxLen) (hl : es.size ≤ 16777216) :
    Calls Tryz.prog 143 #[.func (.func 175) #[] #[.pointer (some ⟨w.heap.size, 0, none⟩)]] (w.alloc (.cells #[.map (some b)] 121)) fun e w' =>
      ∃ v, e = .returned v ∧ w'.ownsRow (w.heap.size + 1) 9 1 v es.size ((namesL es.toList).map encStr) ∧ (v = .slice none 0 0 ↔ es.toList = []) ∧ Below w.heap.size w w' := by
  obtain ⟨D, ho, hp, hsz⟩ := dir_owns hb h hk (by simp only [maxLen]; omega)
  have hbl := blk_lt hb
  have hseq : SeqGives Fence.wide 2 Tryz.prog 175 #[.pointer (some ⟨w.heap.size, 0, none⟩)] encStr (fun ss => ss.Perm (strKeys D)) (Maps.size D) (w.alloc (.cells #[.map (some b)] 121)) :=
    AnyZ.keys_gives (ρ := Tryz.keysS_ren) { Tryz.keysS with } Fence.wide _ trivial rfl (by omega) w.heap.size b _ D _ (by simp) (by simp) (by
      obtain ⟨es, clock, hb, Ft, hs, hD⟩ := ho
      exact ⟨es, clock, (Below.heap_alloc _ _ b hbl).trans hb, Ft, hs, hD⟩)
  have cS := AnyZ.sorted_in Tryz.sortedS Fence.wide 5 trivial trivial trivial trivial rfl (by omega) (sortsS_any _) (enters_of Tryz.func174 (by kernel_rfl) rfl) 175 #[.pointer (some ⟨w.heap.size, 0, none⟩)] trivial (enters_of Tryz.func175 (by kernel_rfl) rfl) _ _ (by rw [hsz]; simp only [maxLen]; omega) (by rw [hsz]; omega) _ hseq
  refine ((callsIn_wide (n := 5)).1 cS).mono ?_
  rintro e w' ⟨v, ss, rfl, hS, hrow, hnil, hb2⟩
  have hP := hS.trans hp
  have e1 : ss.mergeSort (fun x y => decide (x ≤ y)) = namesL es.toList := names_perm hP
  rw [e1] at hrow
  have hln : ss.length = es.size := by rw [hP.length_eq]; simp
  rw [hln] at hrow
  have hrow2 : w'.ownsRow (w.alloc (.cells #[.map (some b)] 121)).heap.size 9 1 v es.size ((namesL es.toList).map encStr) := hrow
  refine ⟨v, rfl, by simpa using hrow2, hnil.trans ⟨fun q => ?_, fun q => ?_⟩, ((Below.refl _ w).alloc (Nat.le_refl _) _).trans (hb2.mono (by simp))⟩
  · rw [q] at hP
    exact List.map_eq_nil_iff.1 hP.symm.eq_nil
  · rw [q] at hP
    exact hP.eq_nil
set_option maxHeartbeats 4000000 in
set_option maxRecDepth 100000 in
theorem names_off {w : World} {f : Nat} (h5 : w.cell? ⟨f, 5, none⟩ = some (.bool true)) :
    Calls Tryz.prog 106 #[.pointer (some ⟨f, 0, none⟩)] w fun e w' => e = .returned (.slice none 0 0) ∧ w' = w := by
  go_enter Tryz.func106, Tryz.ntmps106
  go_wp2
  go_ret
  exact ⟨rfl, rfl⟩
set_option maxHeartbeats 4000000 in
set_option maxRecDepth 100000 in
theorem names_any {w : World} {f b clock : Nat} {es : Array MapEntry} (h5 : w.cell? ⟨f, 5, none⟩ = some (.bool false)) (h1 : w.cell? ⟨f, 1, none⟩ = some (.map (some b))) (hb : w.heap[b]? = some (.map es clock)) (h : DirE es.toList clock) (hk : ∀ e ∈ es.toList, (keyL e).length ≤ maxLen) (hl : es.size ≤ 16777216) :
    Calls Tryz.prog 106 #[.pointer (some ⟨f, 0, none⟩)] w fun e w' =>
      ∃ v, e = .returned v ∧ w'.ownsRow (w.heap.size + 1) 9 1 v es.size ((namesL es.toList).map encStr) ∧ (v = .slice none 0 0 ↔ es.toList = []) ∧ Below w.heap.size w w' := by
  have hk1 := keysDir_any (some b) w
  have hs1 := sortedDir_any hb h hk hl
  clear hb h hk hl
  go_enter Tryz.func106, Tryz.ntmps106
  go_wp2_with (first
    | (go_at_call 144; refine hk1.mono ?_; rintro e w2 ⟨rfl, rfl⟩)
    | (go_at_call 143; refine hs1.mono ?_; rintro e w2 ⟨v, rfl, hr, hnil, hb2⟩))
  go_ret
  exact ⟨_, rfl, hr, hnil, hb2⟩
end
section
open Go.RowKit
namespace Ex
section
variable {κ : K} {h h' : Hp} {w w' : World} {ro : Nat} {P : Program}
def HkOk (ro f : Nat) (x : List Value → Hp → Option (Value × Hp)) : Prop := ∀ args h v h', x args h = some (v, h') → Up h h' ∧
  ∀ κ w (args' : Array Value), HR Tryz.prog κ h.m w → LR κ args args'.toList → Free κ h.c h'.c → Calls Tryz.prog f args' w fun e w' => ∃ v', e = .returned v' ∧ Comes' Tryz.prog ro κ h w v h' v' w'
theorem ptr_inv {b off : Nat} {v' : Value} (r : VR κ (.pointer (some ⟨b, off, none⟩)) v') : v' = .pointer (some ⟨κ.p b, off, none⟩) ∧ κ.dom b := by
  cases r with
  | ptr _ _ hd => exact ⟨rfl, hd⟩
theorem map_inv {b : Nat} {v' : Value} (r : VR κ (.map (some b)) v') : v' = .map (some (κ.p b)) ∧ κ.dom b := by
  cases r with
  | map _ hd => exact ⟨rfl, hd⟩
theorem str_inv {s : ByteArray} {v' : Value} (r : VR κ (.string s) v') : v' = .string s := by cases r; rfl
theorem bool_inv {b : Bool} {v' : Value} (r : VR κ (.bool b) v') : v' = .bool b := by cases r; rfl
theorem arg1 {x : Value} {args' : Array Value} (r : LR κ [x] args'.toList) : ∃ y, args' = #[y] ∧ VR κ x y := by
  obtain ⟨y, ys, hy, r1, r2⟩ := r.cons_inv
  have := r2.nil_inv
  subst this
  exact ⟨y, by apply Array.ext'; rw [hy], r1⟩
theorem arg2 {x1 x2 : Value} {args' : Array Value} (r : LR κ [x1, x2] args'.toList) : ∃ y1 y2, args' = #[y1, y2] ∧ VR κ x1 y1 ∧ VR κ x2 y2 := by
  obtain ⟨y1, ys, hy, r1, r2⟩ := r.cons_inv
  obtain ⟨y2, ys2, rfl, r3, r4⟩ := r2.cons_inv
  have := r4.nil_inv
  subst this
  exact ⟨y1, y2, by apply Array.ext'; rw [hy], r1, r3⟩
theorem arg3 {x1 x2 x3 : Value} {args' : Array Value} (r : LR κ [x1, x2, x3] args'.toList) : ∃ y1 y2 y3, args' = #[y1, y2, y3] ∧ VR κ x1 y1 ∧ VR κ x2 y2 ∧ VR κ x3 y3 := by
  obtain ⟨y1, ys, hy, r1, r2⟩ := r.cons_inv
  obtain ⟨y2, ys2, rfl, r3, r4⟩ := r2.cons_inv
  obtain ⟨y3, ys3, rfl, r5, r6⟩ := r4.cons_inv
  have := r6.nil_inv
  subst this
  exact ⟨y1, y2, y3, by apply Array.ext'; rw [hy], r1, r3, r5⟩
theorem cells_ok (H : HR P κ h.m w) {b : Nat} {c : List Value} {e : TypeId} {fr : Bool} (hb : h.m.get b = some (.cells c e fr)) :
    κ.dom b ∧ ∃ (c' : Array Value) (fz : Nat × Nat), w.heap[κ.p b]? = some (.cells c' e fz) ∧ (fr = false → fz = (0, 0)) ∧ c.length ≤ c'.size ∧ c'.size = κ.n b ∧ (∀ s, sz P e = some s → s = κ.s b) ∧ ∀ (i : Nat) v, c[i]? = some v → ∃ v', c'[i]? = some v' ∧ VR κ v v' := by
  obtain ⟨hd, o', ho', hor⟩ := H.obj b _ hb
  cases hor with
  | cells _ _ _ c' fz hn hl hs hc hf => exact ⟨hd, c', fz, ho', hf, hl, hn, hs, hc⟩
theorem cellAt_ok (H : HR P κ h.m w) {b off : Nat} {v : Value} (e : cellAt h b off = some v) : κ.dom b ∧ ∃ v', w.cell? ⟨κ.p b, off, none⟩ = some v' ∧ VR κ v v' := by
  unfold cellAt at e
  split at e
  · rename_i c t fr hb
    obtain ⟨hd, c', fz, ho, _, _, _, _, hc⟩ := cells_ok H hb
    obtain ⟨v', hv, r⟩ := hc off v e
    exact ⟨hd, v', by simp [World.cell?, ho, hv], r⟩
  · cases e
theorem boxB_ok (H : HR P κ h.m w) {y : Nat} (e : boxB h y = true) : κ.dom y ∧ (h.m.get y).isSome ∧ ∃ (c : Array Value) (t : TypeId), w.heap[κ.p y]? = some (.cells c t (0, 0)) := by
  unfold boxB at e
  split at e
  · rename_i c t hb
    obtain ⟨hd, c', fz, ho, hf, _⟩ := cells_ok H hb
    rw [hf rfl] at ho
    exact ⟨hd, by rw [hb]; rfl, c', t, ho⟩
  · cases e
/-- Nothing that was there is another. -/
theorem hr_below (H : HR P κ h.m w) (B : Below w.heap.size w w') : HR P κ h.m w' ∧ Gone ro κ κ h h w w' :=
  ⟨⟨fun i o hi => by
    obtain ⟨hd, o', ho', hor⟩ := H.obj i o hi
    exact ⟨hd, o', (B.block _ (blk_lt ho')).trans ho', hor⟩, H.inj, H.glob⟩,
   ⟨Nat.le_refl _, Ext.refl κ, fun _ h => .inl h, B.size, B.os, B.tape, B.output, fun b hb _ => B.block b hb, fun i hi => by
    obtain ⟨o, ho⟩ := Option.isSome_iff_exists.1 hi
    exact .inl (H.obj i o ho).1, fun _ _ h => h, fun _ _ _ => rfl, fun _ h => h⟩⟩
/-- A new block, wherever it lies among the new ones. -/
theorem go_at (H : HR P κ h.m w) (hf : ¬κ.dom h.c) {o : AO} {o' : Obj} {g n s : Nat} (B : Below w.heap.size w w') (hg : w.heap.size ≤ g) (hw : w'.heap[g]? = some o')
    (ho : OR P (κ.add h.c g n s) h.c o o') :
    HR P (κ.add h.c g n s) (h.new o).m w' ∧ Gone ro κ (κ.add h.c g n s) h (h.new o) w w' := by
  have hx := Ext.add g n s hf
  have hlt : ∀ i x, h.m.get i = some x → κ.p i < w.heap.size ∧ i ≠ h.c := fun i x hi => by
    obtain ⟨hd, o1, ho1, _⟩ := H.obj i x hi
    exact ⟨by obtain ⟨a, _⟩ := Array.getElem?_eq_some_iff.1 ho1; exact a, fun e => hf (e ▸ hd)⟩
  refine ⟨⟨fun i x hi => ?_, fun a b ha hb e => ?_, fun g hg => ?_⟩, ⟨by simp [Hp.new], hx, fun i hi => ?_, B.size, B.os, B.tape, B.output, fun b hb _ => B.block b hb, fun i hi => ?_, fun i hd hi => ?_, fun i hd _ => ?_, fun _ h => h⟩⟩
  · rw [Hp.get_new] at hi
    by_cases e : i = h.c
    · rw [if_pos e] at hi; simp only [Option.some.injEq] at hi; subst hi; subst e
      refine ⟨.inr rfl, o', ?_, ho⟩
      simp [K.add, hw]
    · rw [if_neg e] at hi
      obtain ⟨hd, o1, ho1, hr⟩ := H.obj i x hi
      refine ⟨.inl hd, o1, ?_, hr.ext hx hd⟩
      rw [hx.p i hd]; exact (B.block _ (hlt i x hi).1).trans ho1
  · rw [Hp.get_new] at ha hb
    by_cases ea : a = h.c <;> by_cases eb : b = h.c
    · rw [ea, eb]
    · exfalso
      rw [if_neg eb] at hb
      obtain ⟨y, hy⟩ := Option.isSome_iff_exists.1 hb
      have := (hlt b y hy).1
      simp [K.add, ea, eb] at e; omega
    · exfalso
      rw [if_neg ea] at ha
      obtain ⟨y, hy⟩ := Option.isSome_iff_exists.1 ha
      have := (hlt a y hy).1
      simp [K.add, ea, eb] at e; omega
    · rw [if_neg ea] at ha; rw [if_neg eb] at hb
      simp [K.add, ea, eb] at e
      exact H.inj a b ha hb e
  · exact ⟨.inl (H.glob g hg).1, by rw [hx.p g (H.glob g hg).1]; exact (H.glob g hg).2⟩
  · rcases hi with hi | hi
    · exact .inl hi
    · exact .inr ⟨by omega, by simp [Hp.new]; omega⟩
  · rw [Hp.get_new] at hi
    by_cases e : i = h.c
    · exact .inr (.inl (by simp [K.add, e]; exact hg))
    · rw [if_neg e] at hi
      obtain ⟨y, hy⟩ := Option.isSome_iff_exists.1 hi
      exact .inl (H.obj i y hy).1
  · rw [Hp.get_new, if_neg (fun (e : i = h.c) => hf (e ▸ hd))] at hi; exact hi
  · rw [Hp.get_new, if_neg (fun (e : i = h.c) => hf (e ▸ hd))]
/-! ### what is held -/
theorem bornOk_ok {cl : Nat} : ∀ {es : List MapEntry}, bornOk cl es = true → (es.map (·.born)).Nodup ∧ ∀ e ∈ es, e.born < cl
  | [], _ => ⟨by simp, fun _ h => by cases h⟩
  | e :: es, hb => by
    unfold bornOk at hb
    simp only [Bool.and_eq_true, List.all_eq_true, Bool.not_eq_true', Nat.ble_eq] at hb
    obtain ⟨⟨h1, h2⟩, h3⟩ := hb
    obtain ⟨i1, i2⟩ := bornOk_ok h3
    refine ⟨?_, fun x hx => ?_⟩
    · rw [List.map_cons, List.nodup_cons]
      refine ⟨fun hm => ?_, i1⟩
      obtain ⟨x, hx, hxe⟩ := List.mem_map.1 hm
      have := h2 x hx
      rw [hxe, Nat.beq_refl] at this
      cases this
    · rcases List.mem_cons.1 hx with rfl | hx
      · exact h1
      · exact i2 x hx
theorem ERs.born {es es' : List MapEntry} (r : ERs κ es es') : es'.map (·.born) = es.map (·.born) := by
  apply List.ext_getElem?
  intro i
  rw [List.getElem?_map, List.getElem?_map]
  cases hi : es[i]? with
  | none =>
    have : es'[i]? = none := by rw [List.getElem?_eq_none_iff] at hi ⊢; rw [← r.1]; exact hi
    rw [this]
  | some e =>
    have hl : i < es'.length := by rw [← r.1]; exact (List.getElem?_eq_some_iff.1 hi).1
    rw [List.getElem?_eq_getElem hl]
    simp only [Option.map_some, Option.some.injEq]
    exact (r.2 i e _ hi (List.getElem?_eq_getElem hl)).2.2
theorem ERs.mem {es es' : List MapEntry} (r : ERs κ es es') {e' : MapEntry} (he : e' ∈ es') : ∃ e ∈ es, ER κ e e' := by
  obtain ⟨i, hi, rfl⟩ := List.mem_iff_getElem.1 he
  have hl : i < es.length := by rw [r.1]; exact hi
  exact ⟨es[i], List.getElem_mem hl, r.2 i _ _ (List.getElem?_eq_getElem hl) (List.getElem?_eq_getElem hi)⟩
theorem ERs.keys {es es' : List MapEntry} (r : ERs κ es es') : LR κ (es.map (·.key)) (es'.map (·.key)) :=
  ⟨by simp [r.1], fun i v v' a b => by
    rw [List.getElem?_map] at a b
    cases hi : es[i]? with
    | none => rw [hi] at a; cases a
    | some e =>
      cases hj : es'[i]? with
      | none => rw [hj] at b; cases b
      | some e' =>
        rw [hi] at a; rw [hj] at b
        cases a; cases b
        exact (r.2 i e e' hi hj).1⟩
theorem ERs.vals {es es' : List MapEntry} (r : ERs κ es es') : LR κ (es.map (·.val)) (es'.map (·.val)) :=
  ⟨by simp [r.1], fun i v v' a b => by
    rw [List.getElem?_map] at a b
    cases hi : es[i]? with
    | none => rw [hi] at a; cases a
    | some e =>
      cases hj : es'[i]? with
      | none => rw [hj] at b; cases b
      | some e' =>
        rw [hi] at a; rw [hj] at b
        cases a; cases b
        exact (r.2 i e e' hi hj).2.1⟩
theorem keysAt_ok (H : HR P κ h.m w) {r : Nat} {ks : List Value} (e : keysAt h r = some ks) :
    ∃ clock es' l', w.heap[κ.p r]? = some (.map es' clock) ∧ (es'.toList.map (·.born)).Nodup ∧ (∀ x ∈ es'.toList, x.born < clock) ∧ LR κ ks l' ∧ (es'.toList.map (·.key)).Perm l' := by
  unfold keysAt at e
  split at e
  · rename_i ks0 hb
    cases e
    obtain ⟨hd, o', ho', hor⟩ := H.obj r _ hb
    cases hor with
    | bag _ l' clock es' hl hp hv hn => exact ⟨clock, es', l', ho', hn, fun x hx => (hv x hx).2, hl, hp⟩
  · rename_i es cl hb
    cases hbo : bornOk cl es with
    | false => rw [hbo] at e; cases e
    | true =>
      rw [hbo] at e
      cases e
      obtain ⟨_, es', ho', he⟩ := map_obj H hb
      obtain ⟨b1, b2⟩ := bornOk_ok hbo
      refine ⟨cl, es', _, ho', by rw [he.born]; exact b1, fun x hx => ?_, he.keys, List.Perm.refl _⟩
      obtain ⟨e0, h0, hr⟩ := he.mem hx
      rw [hr.2.2]
      exact b2 e0 h0
  · cases e
def lenAt (w : World) (v : Value) : Nat :=
  match v with
  | .pointer (some ⟨x, 0, none⟩) => match w.cell? ⟨x, 0, none⟩ with
    | some (.slice _ n _) => n
    | _ => 0
  | _ => 0
theorem sumK_ok (H : HR P κ h.m w) : ∀ {ks l' : List Value} {n : Nat}, sumK h ks = some n → LR κ ks l' →
    (l'.map (lenAt w)).sum = n ∧ ∀ k ∈ l', ∃ x A c, k = .pointer (some ⟨x, 0, none⟩) ∧ w.cell? ⟨x, 0, none⟩ = some (.slice A (lenAt w k) c)
  | [], l', n, e, r => by
    have := r.nil_inv
    subst this
    cases e
    exact ⟨rfl, fun k hk => by cases hk⟩
  | k :: ks, l', n, e, r => by
    obtain ⟨y, ys, rfl, r1, r2⟩ := r.cons_inv
    unfold sumK at e
    split at e
    · rename_i h0; cases h0
    · rename_i x ks0 h0
      cases h0
      split at e
      · rename_i A m c hc
        split at e
        · rename_i s hs
          cases e
          obtain ⟨i1, i2⟩ := sumK_ok H hs r2
          obtain ⟨rfl, hd⟩ := ptr_inv r1
          obtain ⟨_, v', hv, rv⟩ := cellAt_ok H hc
          have hlen : ∃ A' c', v' = .slice A' m c' := by cases rv <;> exact ⟨_, _, rfl⟩
          obtain ⟨A', c', rfl⟩ := hlen
          have hl : lenAt w (.pointer (some ⟨κ.p x, 0, none⟩)) = m := by simp only [lenAt, hv]
          refine ⟨by rw [List.map_cons, List.sum_cons, i1, hl], fun k hk => ?_⟩
          rcases List.mem_cons.1 hk with rfl | hk
          · exact ⟨κ.p x, A', c', rfl, by rw [hl]; exact hv⟩
          · exact i2 k hk
        · cases e
      · cases e
    · cases e
theorem held_ok : HkOk ro 88 heldH := by
  intro args h v h' hx
  unfold heldH at hx
  split at hx
  · rename_i b
    split at hx
    · rename_i r hc
      split at hx
      · rename_i ks hk
        split at hx
        · rename_i n hs
          cases hle : Nat.ble n 1099511627776 with
          | false => rw [hle] at hx; cases hx
          | true =>
            rw [hle] at hx
            cases hx
            refine ⟨Up.refl _, fun κ w args' H rl _ => ?_⟩
            obtain ⟨y, rfl, ry⟩ := arg1 rl
            obtain ⟨rfl, hd⟩ := ptr_inv ry
            obtain ⟨_, v', hv, rv⟩ := cellAt_ok H hc
            obtain ⟨rfl, _⟩ := map_inv rv
            obtain ⟨clock, es', l', ho, hn, hb, hl, hp⟩ := keysAt_ok H hk
            obtain ⟨s1, s2⟩ := sumK_ok H hs hl
            have hsum : (es'.toList.map fun e => lenAt w e.key).sum = n := by
              rw [← s1, show (es'.toList.map fun e => lenAt w e.key) = (es'.toList.map (·.key)).map (lenAt w) by rw [List.map_map]; rfl]
              exact (hp.map _).sum_nat
            have hlt : n ≤ 1099511627776 := Nat.le_of_ble_eq_true hle
            refine (held_any (L := fun e => lenAt w e.key) hv ⟨ho, hn, hb, fun e he => s2 e.key (hp.mem_iff.1 (List.mem_map_of_mem he))⟩ (by rw [hsum]; omega)).mono ?_
            rintro e w' ⟨rfl, B⟩
            rw [hsum]
            obtain ⟨H2, G2⟩ := hr_below (ro := ro) H B
            exact ⟨_, rfl, κ, H2, G2, .int _ _⟩
        · cases hx
      · cases hx
    · cases hx
  · cases hx
end
end Ex
end
section
open Go.RowKit
namespace Ex
section
variable {κ : K} {h h' : Hp} {w w' : World} {ro : Nat} {P : Program}
theorem eqL_iff : ∀ {a b : List UInt8}, eqL a b = true ↔ a = b
  | [], [] => by simp [eqL]
  | [], _ :: _ => by simp [eqL]
  | _ :: _, [] => by simp [eqL]
  | x :: xs, y :: ys => by
    unfold eqL
    cases hb : Nat.beq x.toNat y.toNat with
    | true =>
      have : x = y := UInt8.toNat.inj (Nat.eq_of_beq_eq_true hb)
      subst this
      rw [cond_true, eqL_iff]
      simp
    | false =>
      rw [cond_false]
      simp only [Bool.false_eq_true, List.cons.injEq, false_iff, not_and]
      rintro rfl
      rw [Nat.beq_refl] at hb
      cases hb
theorem ba_ext {a b : ByteArray} (h : a.data.toList = b.data.toList) : a = b := by
  cases a; cases b
  simp only [ByteArray.mk.injEq]
  exact Array.ext' h
theorem keyEq_iff {nm : ByteArray} {e : MapEntry} : keyEq nm.data.toList e = true ↔ e.key = .string nm := by
  unfold keyEq
  split
  · rename_i s hs
    rw [eqL_iff, hs]
    constructor
    · intro q; rw [ba_ext q]
    · intro q; cases q; rfl
  · rename_i hs
    constructor
    · intro q; cases q
    · intro q; exact absurd q (hs nm)
theorem dirB_ok (H : HR P κ h.m w) {cl : Nat} : ∀ {es es' : List MapEntry}, dirB h cl es = true → ERs κ es es' → DirE es' cl ∧ (∀ e ∈ es', (keyL e).length ≤ 1000) ∧ (∀ e ∈ es', ∀ y, e.val = .pointer (some ⟨y, 0, none⟩) → ∃ (c : Array Value) (t : TypeId), w.heap[y]? = some (.cells c t (0, 0))) ∧
      ∀ e ∈ es, ∃ s y, e.key = .string s ∧ e.val = .pointer (some ⟨y, 0, none⟩) ∧ (h.m.get y).isSome
  | [], es', _, r => by
    have := ERs.nil_inv r
    subst this
    exact ⟨⟨by simp, fun _ h => by (cases h), fun _ h => by (cases h), .nil, fun _ h => by (cases h)⟩, fun _ h => by (cases h), fun _ h => by (cases h), fun _ h => by (cases h)⟩
  | e :: es, zs, hb, r => by
    obtain ⟨e', es', rfl, r1, r2⟩ := r.cons_inv
    unfold dirB at hb
    simp only [Bool.and_eq_true, Nat.ble_eq, List.all_eq_true, Bool.not_eq_true'] at hb
    obtain ⟨⟨⟨h1, h2⟩, h3⟩, h4⟩ := hb
    obtain ⟨iD, iL, iB, iS⟩ := dirB_ok H h4 r2
    split at h1
    · rename_i s y hk hv
      simp only [Bool.and_eq_true, Nat.ble_eq, List.all_eq_true, Bool.not_eq_true'] at h1
      obtain ⟨⟨h5, h6⟩, h7⟩ := h1
      obtain ⟨hd, hs5, c, t, ho⟩ := boxB_ok H h5
      have hk' : e'.key = .string s := by have := r1.1; rw [hk] at this; exact str_inv this
      have hv' : e'.val = .pointer (some ⟨κ.p y, 0, none⟩) := by have := r1.2.1; rw [hv] at this; exact (ptr_inv this).1
      refine ⟨⟨?_, ?_, ?_, ?_, ?_⟩, ?_, ?_, ?_⟩
      · rw [List.map_cons, List.nodup_cons]
        refine ⟨fun hm => ?_, iD.nd⟩
        obtain ⟨x', hx', hxe⟩ := List.mem_map.1 hm
        obtain ⟨x, hx, rx⟩ := r2.mem hx'
        have := h3 x hx
        rw [show x.born = e.born by rw [← rx.2.2, hxe, r1.2.2], Nat.beq_refl] at this
        cases this
      · intro x hx
        rcases List.mem_cons.1 hx with rfl | hx
        · rw [r1.2.2]; exact h2
        · exact iD.born x hx
      · intro x hx
        rcases List.mem_cons.1 hx with rfl | hx
        · exact ⟨s, hk'⟩
        · exact iD.key x hx
      · refine .cons (fun x' hx' q => ?_) iD.one
        obtain ⟨x, hx, rx⟩ := r2.mem hx'
        obtain ⟨sx, _, hxk, _⟩ := iS x hx
        have hx2 : x'.key = .string sx := by have := rx.1; rw [hxk] at this; exact str_inv this
        have h8 := h7 x hx
        rw [hk', hx2] at q
        cases q
        rw [keyEq_iff.2 hxk] at h8
        cases h8
      · intro x hx
        rcases List.mem_cons.1 hx with rfl | hx
        · exact ⟨_, hv'⟩
        · exact iD.val x hx
      · intro x hx
        rcases List.mem_cons.1 hx with rfl | hx
        · unfold keyL; rw [hk']; exact h6
        · exact iL x hx
      · intro x hx z hz
        rcases List.mem_cons.1 hx with rfl | hx
        · rw [hv'] at hz; cases hz; exact ⟨c, t, ho⟩
        · exact iB x hx z hz
      · intro x hx
        rcases List.mem_cons.1 hx with rfl | hx
        · exact ⟨s, y, hk, hv, hs5⟩
        · exact iS x hx
    · cases h1
/-! ### a directory turned -/
theorem filter_ok (H : HR P κ h.m w) {x : Nat} (hx : (h.m.get x).isSome) : ∀ {es es' : List MapEntry}, (∀ e ∈ es, ∃ s y, e.key = .string s ∧ e.val = .pointer (some ⟨y, 0, none⟩) ∧ (h.m.get y).isSome) → ERs κ es es' →
    ERs κ (es.filter fun e => !(ptrEq x e)) (es'.filter (keepX (κ.p x)))
  | [], es', _, r => by
    have := ERs.nil_inv r
    subst this
    exact r
  | e :: es, zs, hs, r => by
    obtain ⟨e', es', rfl, r1, r2⟩ := r.cons_inv
    obtain ⟨s, y, hk, hv, hy⟩ := hs e List.mem_cons_self
    have hv' : e'.val = .pointer (some ⟨κ.p y, 0, none⟩) := by have := r1.2.1; rw [hv] at this; exact (ptr_inv this).1
    have ih := filter_ok H hx (fun z hz => hs z (List.mem_cons_of_mem _ hz)) r2
    have h1 : ptrEq x e = Nat.beq y x := by simp [ptrEq, hv]
    have h2 : keepX (κ.p x) e' = !(κ.p y == κ.p x) := keepX_is hv'
    have h3 : (κ.p y == κ.p x) = Nat.beq y x := by
      cases hq : Nat.beq y x with
      | true => rw [Nat.eq_of_beq_eq_true hq]; simp
      | false =>
        have : κ.p y ≠ κ.p x := fun q => by rw [H.inj y x hy hx q, Nat.beq_refl] at hq; cases hq
        simpa using this
    rw [List.filter_cons, List.filter_cons, h1, h2, h3]
    obtain ⟨bb, hbb⟩ : ∃ bb, bb = Nat.beq y x := ⟨_, rfl⟩
    rw [← hbb]
    clear h1 h2 h3 hbb
    cases bb with
    | true => exact ih
    | false =>
      simp only [Bool.not_false, if_true]
      exact ⟨by simp [ih.1], fun i a b ha hb => by
        cases i with
        | zero => simp at ha hb; subst ha; subst hb; exact r1
        | succ i => exact ih.2 i a b (by simpa using ha) (by simpa using hb)⟩
theorem ERs.cons {e e' : MapEntry} {es es' : List MapEntry} (r : ER κ e e') (rs : ERs κ es es') : ERs κ (e :: es) (e' :: es') :=
  ⟨by simp [rs.1], fun i a b ha hb => by
    cases i with
    | zero => simp at ha hb; subst ha; subst hb; exact r
    | succ i => exact rs.2 i a b (by simpa using ha) (by simpa using hb)⟩
theorem findS_shift (s : ByteArray) : ∀ (l : List MapEntry) (i : Nat), findS s l (i + 1) = (findS s l i).map fun q => (q.1 + 1, q.2)
  | [], _ => rfl
  | y :: l, i => by
    unfold findS
    split
    · rfl
    · exact findS_shift s l (i + 1)
theorem updE_cons (s : ByteArray) (v : Value) (cl : Nat) (e : MapEntry) (es : List MapEntry) : updE s v cl (e :: es) = if keyIs s e then ({ e with val := v } :: es, cl) else (e :: (updE s v cl es).1, (updE s v cl es).2) := by
  unfold updE
  conv => lhs; unfold findS
  by_cases hk : keyIs s e = true
  · rw [if_pos hk, if_pos hk]
    rfl
  · rw [if_neg hk, if_neg hk, findS_shift]
    cases findS s es 0 with
    | none => rfl
    | some q => rfl
theorem updA_ok {nm : ByteArray} {v v' : Value} {cl : Nat} (rv : VR κ v v') : ∀ {es es' : List MapEntry}, (∀ e ∈ es, ∃ s, e.key = .string s) → ERs κ es es' → ERs κ (updA nm v cl es).1 (updE nm v' cl es').1 ∧ (updE nm v' cl es').2 = (updA nm v cl es).2
  | [], es', _, r => by
    have := ERs.nil_inv r
    subst this
    exact ⟨ERs.cons ⟨.string _, rv, rfl⟩ ⟨rfl, fun i a b ha => by simp at ha⟩, rfl⟩
  | e :: es, zs, hs, r => by
    obtain ⟨e', es', rfl, r1, r2⟩ := r.cons_inv
    obtain ⟨s, hk⟩ := hs e List.mem_cons_self
    have hk' : e'.key = .string s := by have := r1.1; rw [hk] at this; exact str_inv this
    obtain ⟨i1, i2⟩ := updA_ok (nm := nm) (cl := cl) rv (fun z hz => hs z (List.mem_cons_of_mem _ hz)) r2
    rw [updE_cons]
    unfold updA
    cases hq : keyEq nm.data.toList e with
    | true =>
      have : keyIs nm e' = true := keyIs_iff.2 (by have := keyEq_iff.1 hq; rw [hk] at this; rw [hk']; exact this)
      rw [if_pos this, cond_true]
      exact ⟨ERs.cons ⟨r1.1, rv, r1.2.2⟩ r2, rfl⟩
    | false =>
      have : ¬keyIs nm e' = true := fun q => by
        have q2 := keyIs_iff.1 q
        rw [hk'] at q2
        rw [keyEq_iff.2 (hk.trans q2)] at hq
        cases hq
      rw [if_neg this, cond_false]
      exact ⟨ERs.cons r1 i1, i2⟩
theorem dirA_ok (H : HR P κ h.m w) {x cl : Nat} {nm : ByteArray} (hx : (h.m.get x).isSome) (hdx : κ.dom x) {es es' : List MapEntry} (hs : ∀ e ∈ es, ∃ s y, e.key = .string s ∧ e.val = .pointer (some ⟨y, 0, none⟩) ∧ (h.m.get y).isSome) (r : ERs κ es es') :
    ERs κ (dirA x nm cl es).1 (dirT (κ.p x) nm cl es').1 ∧ (dirT (κ.p x) nm cl es').2 = (dirA x nm cl es).2 := by
  have rf := filter_ok H hx hs r
  unfold dirA dirT
  have hsz : nm.data.toList.length = nm.size := by simp
  rw [hsz]
  by_cases hz : nm.size = 0
  · rw [if_pos hz, hz, Nat.beq_refl, cond_true]
    exact ⟨rf, rfl⟩
  · have : Nat.beq nm.size 0 = false := by
      cases hq : Nat.beq nm.size 0 with
      | false => rfl
      | true => exact absurd (Nat.eq_of_beq_eq_true hq) hz
    rw [if_neg hz, this, cond_false]
    exact updA_ok (.ptr x 0 hdx) (fun e he => by obtain ⟨s, _, hk, _⟩ := hs e (List.mem_filter.1 he).1; exact ⟨s, hk⟩) rf
theorem pend_ok : HkOk ro 130 (pendH ro) := by
  intro args h v h' hx
  unfold pendH at hx
  split at hx
  · rename_i r bx bn
    split at hx
    · rename_i es cl hr
      split at hx
      · rename_i x hcx
        split at hx
        · rename_i nm hcn
          cases hb : boxB h x && dirB h cl es with
          | false => rw [hb] at hx; cases hx
          | true =>
            rw [hb, cond_true] at hx
            rw [Bool.and_eq_true] at hb
            split at hx
            · rename_i hq hu
              cases hx
              refine ⟨up_upd hr hu, fun κ w args' H rl _ => ?_⟩
              obtain ⟨y1, y2, y3, rfl, r1, r2, r3⟩ := arg3 rl
              obtain ⟨rfl, hdr⟩ := map_inv r1
              obtain ⟨rfl, _⟩ := ptr_inv r2
              obtain ⟨rfl, _⟩ := ptr_inv r3
              obtain ⟨_, v1, hv1, rv1⟩ := cellAt_ok H hcx
              obtain ⟨rfl, hdx⟩ := ptr_inv rv1
              obtain ⟨_, v2, hv2, rv2⟩ := cellAt_ok H hcn
              obtain rfl := str_inv rv2
              obtain ⟨_, es', ho, he⟩ := map_obj H hr
              obtain ⟨D1, _, D3, D4⟩ := dirB_ok H hb.2 he
              obtain ⟨_, hsx, cx, tx, hox⟩ := boxB_ok H hb.1
              have hne : ∀ q, w.cell? ⟨q, 0, none⟩ ≠ none → q ≠ κ.p r := fun q hq e => hq (by rw [e]; simp [World.cell?, ho])
              have hbox : ∀ y, y = κ.p x ∨ (∃ e ∈ es'.toList, e.val = .pointer (some ⟨y, 0, none⟩)) → ∃ (c : Array Value) (t : TypeId), w.heap[y]? = some (.cells c t (0, 0)) := fun y hy => by
                rcases hy with rfl | ⟨e, he2, hv⟩
                · exact ⟨cx, tx, hox⟩
                · exact D3 e he2 y hv
              refine (pend1_any ho D1 hv1 hv2 (hne _ (by rw [hv1]; simp)) (hne _ (by rw [hv2]; simp)) hbox).mono ?_
              rintro e w' ⟨rfl, ⟨es2, ho2, hes2⟩, B⟩
              obtain ⟨A1, A2⟩ := dirA_ok (nm := nm) (cl := cl) H hsx hdx D4 he
              rw [A2] at ho2
              rw [← hes2] at A1
              have hrl := blk_lt ho
              obtain ⟨H1, G1⟩ := go_upd (ro := ro) (w' := { w with heap := w.heap.setIfInBounds (κ.p r) (.map es2 (dirA x nm cl es).2) }) H hr hu (by simp) (by simp [hrl]) (fun k hk => by simp [Ne.symm hk]) rfl rfl rfl (.map _ _ es2 A1)
              have B2 : Below w.heap.size { w with heap := w.heap.setIfInBounds (κ.p r) (.map es2 (dirA x nm cl es).2) } w' := ⟨B.os, B.tape, B.output, by simp; exact Nat.le_of_lt B.size, fun q hq => by
                by_cases hqr : q = κ.p r
                · rw [hqr, ho2]; simp [hrl]
                · rw [B.oth q hq hqr]; simp [Ne.symm hqr]⟩
              obtain ⟨H2, G2⟩ := hr_below (ro := ro) H1 (B2.mono (by simp))
              exact ⟨_, rfl, κ, H2, G1.trans G2, .tuple _ _ rfl fun i a b ha => by simp at ha⟩
            · cases hx
        · cases hx
      · cases hx
    · cases hx
  · cases hx
end
end Ex
end
section
open Go.RowKit
namespace Ex
section
variable {κ : K} {h h' : Hp} {w w' : World} {ro : Nat} {P : Program}
theorem ptrEq_iff {y : Nat} {e : MapEntry} : ptrEq y e = true ↔ e.val = .pointer (some ⟨y, 0, none⟩) := by
  unfold ptrEq
  split
  · rename_i z hz
    rw [hz]
    constructor
    · intro q; rw [Nat.eq_of_beq_eq_true q]
    · intro q; cases q; exact Nat.beq_refl _
  · rename_i hz
    constructor
    · intro q; cases q
    · intro q; exact absurd q (hz y)
theorem oneB_ok (H : HR P κ h.m w) : ∀ {es es' : List MapEntry}, oneB es = true → (∀ e ∈ es, ∃ s y, e.key = .string s ∧ e.val = .pointer (some ⟨y, 0, none⟩) ∧ (h.m.get y).isSome) → ERs κ es es' → (es'.map (·.val)).Nodup
  | [], es', _, _, r => by
    have := ERs.nil_inv r
    subst this
    exact .nil
  | e :: es, zs, hb, hs, r => by
    obtain ⟨e', es', rfl, r1, r2⟩ := r.cons_inv
    unfold oneB at hb
    rw [Bool.and_eq_true] at hb
    obtain ⟨h1, h2⟩ := hb
    have ih := oneB_ok H h2 (fun z hz => hs z (List.mem_cons_of_mem _ hz)) r2
    obtain ⟨s, y, hk, hv, hy⟩ := hs e List.mem_cons_self
    have hv' : e'.val = .pointer (some ⟨κ.p y, 0, none⟩) := by have := r1.2.1; rw [hv] at this; exact (ptr_inv this).1
    rw [List.map_cons, List.nodup_cons]
    refine ⟨fun hm => ?_, ih⟩
    obtain ⟨x', hx', hxe⟩ := List.mem_map.1 hm
    obtain ⟨x, hx, rx⟩ := r2.mem hx'
    obtain ⟨_, z, _, hzv, hz⟩ := hs x (List.mem_cons_of_mem _ hx)
    have hx2 : x'.val = .pointer (some ⟨κ.p z, 0, none⟩) := by have := rx.2.1; rw [hzv] at this; exact (ptr_inv this).1
    rw [hv', hx2] at hxe
    simp only [Value.pointer.injEq, Option.some.injEq, Addr.mk.injEq, and_true] at hxe
    have hzy := H.inj z y hz hy hxe
    split at h1
    · rename_i y0 hy0
      rw [hv] at hy0
      cases hy0
      have := List.all_eq_true.1 h1 x hx
      rw [ptrEq_iff.2 (hzy ▸ hzv)] at this
      cases this
    · cases h1
theorem cells_set {c : List Value} {c' : Array Value} (hc : ∀ (i : Nat) v, c[i]? = some v → ∃ v', c'[i]? = some v' ∧ VR κ v v') (k : Nat) {u u' : Value} (ru : VR κ u u') (hk : k < c'.size) :
    ∀ (i : Nat) v, (c.set k u)[i]? = some v → ∃ v', (c'.setIfInBounds k u')[i]? = some v' ∧ VR κ v v' := fun i v hv => by
  rw [List.getElem?_set] at hv
  rw [Array.getElem?_setIfInBounds]
  by_cases e : k = i
  · rw [if_pos e] at hv ⊢
    split at hv
    · cases hv
      exact ⟨u', by rw [if_pos hk], ru⟩
    · cases hv
  · rw [if_neg e] at hv ⊢
    exact hc i v hv
theorem settle_ok : HkOk ro 93 (settleH ro) := by
  intro args h v h' hx
  unfold settleH at hx
  split at hx
  · rename_i b
    split at hx
    · rename_i c t hb
      split at hx
      · rename_i r hcr
        split at hx
        · rename_i es cl hr
          cases hbo : dirB h cl es && oneB es && Nat.ble 5 c.length && es.all (fun e => !(ptrEq b e)) with
          | false => rw [hbo] at hx; cases hx
          | true =>
            rw [hbo, cond_true] at hx
            simp only [Bool.and_eq_true, Nat.ble_eq, List.all_eq_true, Bool.not_eq_true'] at hbo
            obtain ⟨⟨⟨b1, b2⟩, b3⟩, b4⟩ := hbo
            split at hx
            · rename_i hq hu
              cases hx
              have hmc : (((h.new (.map es cl)).new (.bag (es.map (·.val)))).m.get b = some (.cells c t false)) ∨ ¬(b ≠ h.c ∧ b ≠ h.c + 1) := by
                by_cases e1 : b ≠ h.c ∧ b ≠ h.c + 1
                · left
                  rw [Hp.get_new, if_neg (show b ≠ (h.new (.map es cl)).c from e1.2), Hp.get_new, if_neg e1.1, hb]
                · exact .inr e1
              have hcc : h'.c = h.c + 2 := by rw [(Hp.upd_inv hu).2]; rfl
              refine ⟨?_, fun κ w args' H rl hf => ?_⟩
              · rcases hmc with hm | hm
                · exact (up_new _ _).trans ((up_new _ _).trans (up_upd hm hu))
                · refine ⟨by omega, fun W => ?_⟩
                  have := W.1 b (by rw [hb]; rfl)
                  exact absurd ⟨by omega, by omega⟩ hm
              · obtain ⟨y, rfl, ry⟩ := arg1 rl
                obtain ⟨rfl, hdb⟩ := ptr_inv ry
                obtain ⟨_, c', fz, hob, hfz, hl, hn, hs, hc⟩ := cells_ok H hb
                rw [hfz rfl] at hob
                obtain ⟨v1, hv1, rv1⟩ := hc 1 _ hcr
                obtain ⟨rfl, hdr⟩ := map_inv rv1
                obtain ⟨_, es', ho, he⟩ := map_obj H hr
                obtain ⟨D1, _, D3, D4⟩ := dirB_ok H b1 he
                have hone := oneB_ok H b2 D4 he
                have f0 : ¬κ.dom h.c := hf h.c (Nat.le_refl _) (by omega)
                have f1 : ¬κ.dom (h.c + 1) := hf (h.c + 1) (by omega) (by omega)
                have hbc : b ≠ h.c ∧ b ≠ h.c + 1 := ⟨fun e => f0 (e ▸ hdb), fun e => f1 (e ▸ hdb)⟩
                have hm : ((h.new (.map es cl)).new (.bag (es.map (·.val)))).m.get b = some (.cells c t false) := hmc.resolve_right (fun q => q hbc)
                refine (settle_any hob hv1 (by omega) ho D1 hone fun e he2 y hv => ?_).mono ?_
                · obtain ⟨cy, ty, hy⟩ := D3 e he2 y hv
                  refine ⟨cy, ty, hy, fun q => ?_⟩
                  obtain ⟨e0, he0, re⟩ := he.mem he2
                  obtain ⟨_, z, _, hzv, hz⟩ := D4 e0 he0
                  have h5 : e.val = .pointer (some ⟨κ.p z, 0, none⟩) := by have := re.2.1; rw [hzv] at this; exact (ptr_inv this).1
                  rw [hv, q] at h5
                  simp only [Value.pointer.injEq, Option.some.injEq, Addr.mk.injEq, and_true] at h5
                  have := H.inj b z (by rw [hb]; rfl) hz h5
                  have h6 := b4 e0 he0
                  rw [ptrEq_iff.2 (this ▸ hzv)] at h6
                  cases h6
                · rintro e w' ⟨rfl, hs', S, hp⟩
                  have hbl := blk_lt hob
                  -- the directory's copy
                  obtain ⟨H1, G1⟩ := go_new (ro := ro) (n := 0) (s := 0) (w' := w.alloc (.map es' cl)) H f0 rfl rfl rfl rfl (.map es cl es' ⟨he.1, fun i e e' p q => (he.2 i e e' p q).ext (Ext.add w.heap.size 0 0 f0)⟩)
                  generalize hκ1 : κ.add h.c w.heap.size 0 0 = κ1 at H1 G1
                  have x1 : Ext κ κ1 := by rw [← hκ1]; exact Ext.add w.heap.size 0 0 f0
                  have f2 : ¬κ1.dom (h.new (.map es cl)).c := by rw [← hκ1]; rintro (q | q); exact f1 q; exact absurd q (by simp [Hp.new])
                  have hsz1 : (w.alloc (.map es' cl)).heap.size = w.heap.size + 1 := by simp
                  -- what is held
                  obtain ⟨H2, G2⟩ := go_new (ro := ro) (n := 0) (s := 0) (w' := (w.alloc (.map es' cl)).alloc (.map hs' hs'.size)) H1 f2 rfl rfl rfl rfl
                    (.bag (es.map (·.val)) (es'.toList.map (·.val)) hs'.size hs' ((he.vals.ext x1).ext (Ext.add _ 0 0 f2)) hp S.val S.nd)
                  rw [hsz1] at H2 G2
                  generalize hκ2 : κ1.add (h.new (.map es cl)).c (w.heap.size + 1) 0 0 = κ2 at H2 G2
                  have x2 : Ext κ1 κ2 := by rw [← hκ2]; exact Ext.add _ 0 0 f2
                  have x12 := x1.trans x2
                  have d1 : κ2.dom h.c ∧ κ2.p h.c = w.heap.size := by
                    have q : κ1.dom h.c ∧ κ1.p h.c = w.heap.size := by rw [← hκ1]; exact ⟨.inr rfl, by simp [K.add]⟩
                    exact ⟨x2.dom _ q.1, (x2.p _ q.1).trans q.2⟩
                  have d2 : κ2.dom (h.c + 1) ∧ κ2.p (h.c + 1) = w.heap.size + 1 := by
                    rw [← hκ2]; exact ⟨.inr rfl, by simp [K.add, Hp.new]⟩
                  -- the box
                  have pb : κ2.p b = κ.p b := x12.p b hdb
                  have hc2 : ∀ (i : Nat) v, c[i]? = some v → ∃ v', c'[i]? = some v' ∧ VR κ2 v v' := fun i v hv => by
                    obtain ⟨v', q, rv⟩ := hc i v hv
                    exact ⟨v', q, rv.ext x12⟩
                  have rN : VR κ2 (.map (some h.c)) (.map (some w.heap.size)) := by rw [← d1.2]; exact .map _ d1.1
                  have rN1 : VR κ2 (.map (some (h.c + 1))) (.map (some (w.heap.size + 1))) := by rw [← d2.2]; exact .map _ d2.1
                  have hset := cells_set (cells_set (cells_set hc2 2 rN (by omega)) 3 .sliceNil (by simp; omega)) 4 rN1 (by simp; omega)
                  have hszb : ((w.alloc (.map es' cl)).alloc (.map hs' hs'.size)).heap.size = w.heap.size + 2 := by simp
                  have hbl2 : κ2.p b < ((w.alloc (.map es' cl)).alloc (.map hs' hs'.size)).heap.size := by rw [pb, hszb]; omega
                  have hbl1 : κ.p b < ((w.alloc (.map es' cl)).alloc (.map hs' hs'.size)).heap.size := by rw [hszb]; omega
                  obtain ⟨H3, G3⟩ := go_upd (ro := ro) (o' := .cells (fsBox w.heap.size c') t (0, 0)) (w' := { (w.alloc (.map es' cl)).alloc (.map hs' hs'.size) with heap := ((w.alloc (.map es' cl)).alloc (.map hs' hs'.size)).heap.setIfInBounds (κ2.p b) (.cells (fsBox w.heap.size c') t (0, 0)) }) H2 hm hu (by simp) (by simp only [Array.getElem?_setIfInBounds, if_true, if_pos hbl2]) (fun k hk => by simp only [Array.getElem?_setIfInBounds, if_neg (Ne.symm hk)]) rfl rfl rfl
                    (.cells _ t false _ (0, 0) (by rw [x12.n b hdb, ← hn]; simp [fsBox]) (by simp [fsBox]; omega) (fun s q => by rw [x12.s b hdb]; exact hs s q) hset fun _ => rfl)
                  -- and what the walk left besides
                  have B : Below (w.heap.size + 2) ({ (w.alloc (.map es' cl)).alloc (.map hs' hs'.size) with heap := ((w.alloc (.map es' cl)).alloc (.map hs' hs'.size)).heap.setIfInBounds (κ2.p b) (.cells (fsBox w.heap.size c') t (0, 0)) } : World) w' :=
                    ⟨S.os, S.tape, S.output, by simp; have := S.size; omega, fun q hq => by
                      rw [pb]
                      by_cases e1 : q = κ.p b
                      · rw [e1, S.box]; simp only [Array.getElem?_setIfInBounds, if_true, if_pos hbl1]
                      · simp only [Array.getElem?_setIfInBounds, if_neg (Ne.symm e1)]
                        by_cases e2 : q = w.heap.size + 1
                        · rw [e2, S.held, ← hsz1]; exact (heap_alloc_new _ _).symm
                        · rw [heap_alloc_old _ _ (by rw [hsz1]; omega)]
                          by_cases e3 : q = w.heap.size
                          · rw [e3, S.last]; exact (heap_alloc_new _ _).symm
                          · rw [heap_alloc_old _ _ (by omega)]; exact S.oth q (by omega) e1⟩
                  obtain ⟨H4, G4⟩ := hr_below (ro := ro) H3 (B.mono (by simp))
                  exact ⟨_, rfl, κ2, H4, ((G1.trans G2).trans G3).trans G4, .tuple _ _ rfl fun i a b ha => by simp at ha⟩
            · cases hx
        · cases hx
      · cases hx
    · cases hx
  · cases hx
end
end Ex
end
section
open Go.RowKit Go.Sort
namespace Ex
section
variable {κ : K} {h h' : Hp} {w w' : World} {ro : Nat} {P : Program}
theorem natLe_iff : ∀ {a b : List UInt8}, natLe a b = true ↔ a ≤ b
  | [], b => by simp [natLe]
  | _ :: _, [] => by simp [natLe]
  | x :: xs, y :: ys => by
    unfold natLe
    rw [List.cons_le_cons_iff]
    cases hb : Nat.ble (x.toNat + 1) y.toNat with
    | true =>
      rw [cond_true]
      have : x < y := UInt8.lt_iff_toNat_lt.2 (Nat.le_of_ble_eq_true hb)
      simp [this]
    | false =>
      have hn : ¬x < y := fun q => by
        have := Nat.ble_eq_true_of_le (Nat.succ_le_of_lt (UInt8.lt_iff_toNat_lt.1 q))
        rw [show Nat.succ x.toNat = x.toNat + 1 from rfl, hb] at this
        cases this
      rw [cond_false]
      cases he : Nat.beq x.toNat y.toNat with
      | true =>
        have : x = y := UInt8.toNat.inj (Nat.eq_of_beq_eq_true he)
        subst this
        rw [cond_true, natLe_iff]
        simp
      | false =>
        have : x ≠ y := fun q => by rw [q, Nat.beq_refl] at he; cases he
        simp [hn, this]
theorem natLe_total (a b : List UInt8) : natLe a b = true ∨ natLe b a = true := by
  rw [natLe_iff, natLe_iff]
  exact List.le_total a b
theorem insS_perm (x : Value) : ∀ l : List Value, (insS x l).Perm (x :: l)
  | [] => List.Perm.refl _
  | y :: ys => by
    unfold insS
    cases natLe (strLs x) (strLs y) with
    | true => exact List.Perm.refl _
    | false => exact ((insS_perm x ys).cons y).trans (List.Perm.swap x y ys)
theorem srtS_perm : ∀ l : List Value, (srtS l).Perm l
  | [] => List.Perm.refl _
  | x :: xs => (insS_perm x _).trans ((srtS_perm xs).cons x)
theorem insS_sorted (x : Value) : ∀ {l : List Value}, l.Pairwise (fun a b => strLs a ≤ strLs b) → (insS x l).Pairwise fun a b => strLs a ≤ strLs b
  | [], _ => List.pairwise_singleton _ _
  | y :: ys, h => by
    unfold insS
    obtain ⟨h1, h2⟩ := List.pairwise_cons.1 h
    cases hq : natLe (strLs x) (strLs y) with
    | true =>
      have hxy := natLe_iff.1 hq
      exact .cons (fun z hz => by
        rcases List.mem_cons.1 hz with rfl | hz
        · exact hxy
        · exact List.le_trans hxy (h1 z hz)) h
    | false =>
      have hyx : strLs y ≤ strLs x := by
        rcases natLe_total (strLs x) (strLs y) with q | q
        · rw [hq] at q; cases q
        · exact natLe_iff.1 q
      refine .cons (fun z hz => ?_) (insS_sorted x h2)
      rcases List.mem_cons.1 ((insS_perm x ys).mem_iff.1 hz) with rfl | hz
      · exact hyx
      · exact h1 z hz
theorem srtS_sorted : ∀ l : List Value, (srtS l).Pairwise fun a b => strLs a ≤ strLs b
  | [] => .nil
  | x :: xs => insS_sorted x (srtS_sorted xs)
theorem enc_str {s : ByteArray} : encStr (strLs (.string s)) = .string s := by
  simp [encStr, strLs]
theorem srt_names {es : List MapEntry} (hk : StrKeys es) : srtS (es.map (·.key)) = (namesL es).map encStr := by
  have h1 : (srtS (es.map (·.key))).map strLs = namesL es := by
    unfold namesL
    refine List.Perm.eq_of_pairwise (le := fun a b => a ≤ b) (fun a b _ _ h1 h2 => List.le_antisymm h1 h2) ?_ ?_ ?_
    · rw [List.pairwise_map]; exact srtS_sorted _
    · have := List.pairwise_mergeSort (le := fun x y : List UInt8 => decide (x ≤ y)) (fun a b c h1 h2 => by simp only [decide_eq_true_eq] at *; exact List.le_trans h1 h2) (fun a b => by simp only [Bool.or_eq_true, decide_eq_true_eq]; exact List.le_total a b) (es.map keyL)
      exact this.imp fun q => by simpa using q
    · refine ((srtS_perm _).map strLs).trans ?_
      rw [List.map_map, show (strLs ∘ fun e : MapEntry => e.key) = keyL from rfl]
      exact (List.mergeSort_perm _ _).symm
  rw [← h1, List.map_map]
  symm
  refine (List.map_congr_left fun v hv => ?_).trans (List.map_id _)
  obtain ⟨e, he, rfl⟩ := List.mem_map.1 ((srtS_perm _).mem_iff.1 hv)
  obtain ⟨s, hs⟩ := hk e he
  rw [Function.comp_apply, hs]
  exact enc_str
theorem keys_same {es es' : List MapEntry} (he : ERs κ es es') (hs : ∀ e ∈ es, ∃ s y, e.key = .string s ∧ e.val = .pointer (some ⟨y, 0, none⟩) ∧ (h.m.get y).isSome) : es'.map (·.key) = es.map (·.key) := by
  refine he.keys.closed (List.all_eq_true.2 fun v hv => ?_)
  obtain ⟨e, he, rfl⟩ := List.mem_map.1 hv
  obtain ⟨s, _, hk, _⟩ := hs e he
  rw [hk]
  rfl
theorem Tryz.infoString : (Tryz.prog.info? 9).map (fun i => i.size) = some 1 := by kernel_rfl
theorem names_ok : HkOk ro 106 namesH := by
  intro args h v h' hx
  unfold namesH at hx
  split at hx
  · rename_i b
    split at hx
    · rename_i h5
      cases hx
      refine ⟨Up.refl _, fun κ w args' H rl _ => ?_⟩
      obtain ⟨y, rfl, ry⟩ := arg1 rl
      obtain ⟨rfl, hd⟩ := ptr_inv ry
      obtain ⟨_, v', hv, rv⟩ := cellAt_ok H h5
      obtain rfl := bool_inv rv
      refine (names_off hv).mono ?_
      rintro e w' ⟨rfl, rfl⟩
      exact ⟨_, rfl, κ, H, Gone.refl H, .sliceNil⟩
    · rename_i h5
      split at hx
      · rename_i r h1
        split at hx
        · rename_i es cl hr
          cases hbo : dirB h cl es && Nat.ble es.length 1000 with
          | false => rw [hbo] at hx; cases hx
          | true =>
            rw [hbo, cond_true] at hx
            simp only [Bool.and_eq_true, Nat.ble_eq] at hbo
            have key : ∀ κ w (args' : Array Value), HR Tryz.prog κ h.m w → LR κ [.pointer (some ⟨b, 0, none⟩)] args'.toList → ∃ es' : Array MapEntry, ERs κ es es'.toList ∧ DirE es'.toList cl ∧ (∀ e ∈ es, ∃ s y, e.key = .string s ∧ e.val = .pointer (some ⟨y, 0, none⟩) ∧ (h.m.get y).isSome) ∧
                Calls Tryz.prog 106 args' w fun e w' => ∃ v, e = .returned v ∧ w'.ownsRow (w.heap.size + 1) 9 1 v es'.size ((namesL es'.toList).map encStr) ∧ (v = .slice none 0 0 ↔ es'.toList = []) ∧ Below w.heap.size w w' := fun κ w args' H rl => by
              obtain ⟨y, rfl, ry⟩ := arg1 rl
              obtain ⟨rfl, hd⟩ := ptr_inv ry
              obtain ⟨_, v', hv, rv⟩ := cellAt_ok H h5
              obtain rfl := bool_inv rv
              obtain ⟨_, v1, hv1, rv1⟩ := cellAt_ok H h1
              obtain ⟨rfl, _⟩ := map_inv rv1
              obtain ⟨_, es', ho, he⟩ := map_obj H hr
              obtain ⟨D1, D2, _, D4⟩ := dirB_ok H hbo.1 he
              have hsz : es'.size = es.length := by have := he.1; simpa using this.symm
              exact ⟨es', he, D1, D4, names_any hv hv1 ho D1 (fun e he => by have := D2 e he; simp only [maxLen]; omega) (by omega)⟩
            split at hx
            · cases hx
              refine ⟨Up.refl _, fun κ w args' H rl _ => ?_⟩
              obtain ⟨es', he, _, _, hC⟩ := key κ w args' H rl
              refine hC.mono ?_
              rintro e w' ⟨v, rfl, _, hnil, B⟩
              obtain rfl := hnil.2 (ERs.nil_inv he)
              obtain ⟨H2, G2⟩ := hr_below (ro := ro) H B
              exact ⟨_, rfl, κ, H2, G2, .sliceNil⟩
            · rename_i e0 es0
              cases hx
              refine ⟨up_new _ _, fun κ w args' H rl hf => ?_⟩
              obtain ⟨es', he, D1, D4, hC⟩ := key κ w args' H rl
              refine hC.mono ?_
              rintro e w' ⟨v, rfl, ⟨hlen, hrow⟩, hnil, B⟩
              have hsz : es'.size = (e0 :: es0).length := by have := he.1; simpa using this.symm
              rcases hrow with ⟨_, h0⟩ | ⟨g, cap, cur, rfl, hg, hcur, hnc, hcm, hcs, htk⟩
              · rw [hsz] at h0; simp at h0
              · have f0 : ¬κ.dom h.c := hf h.c (Nat.le_refl _) (by simp [Hp.new])
                have hk : (e0 :: es0).map (·.key) = es'.toList.map (·.key) := (keys_same he D4).symm
                have hsrt : srtS ((e0 :: es0).map (·.key)) = cur.toList.take es'.size := by
                  rw [hk, srt_names D1.key, ← htk, Nat.mul_one]
                have hcur1 : cur.size = cap := by omega
                obtain ⟨H2, G2⟩ := go_at (ro := ro) (o := .cells (srtS ((e0 :: es0).map (·.key))) 9 false) (o' := .cells cur 9 (0, 0)) (g := g) (n := cur.size) (s := 1) H f0 B (by omega) hcur
                  (.cells _ _ _ cur (0, 0) (by simp [K.add]) (by rw [hsrt, List.length_take]; simp; omega) (fun s q => by
                    have := Tryz.infoString
                    unfold sz at q
                    rw [this] at q
                    cases q
                    simp [K.add]) (fun i v hv => by
                    rw [hsrt, List.getElem?_take] at hv
                    split at hv
                    · refine ⟨v, by rw [← Array.getElem?_toList]; exact hv, ?_⟩
                      have hm : v ∈ cur.toList.take es'.size := List.mem_of_getElem? (i := i) (by rw [List.getElem?_take, if_pos ‹_›]; exact hv)
                      rw [← hsrt] at hm
                      obtain ⟨e, he2, rfl⟩ := List.mem_map.1 ((srtS_perm _).mem_iff.1 hm)
                      obtain ⟨s, _, hk, _⟩ := D4 e he2
                      rw [hk]
                      exact .string s
                    · cases hv) fun _ => rfl)
                refine ⟨_, rfl, _, H2, G2, ?_⟩
                have hcn : cap ≤ cur.size := by omega
                rw [hsz]
                have hv := VR.slice (κ := κ.add h.c g cur.size 1) h.c 0 (e0 :: es0).length (2 * (e0 :: es0).length + 1) 0 cap (.inr rfl) ⟨by omega, .inr ⟨by omega, by omega, fun _ => rfl, by simp [K.add]; omega⟩⟩
                simpa [K.add] using hv
        · cases hx
      · cases hx
    · cases hx
  · cases hx
end
end Ex
end
section
open Go.RowKit
namespace Ex
section
variable {κ : K} {h h' : Hp} {w w' : World} {ro : Nat} {P : Program}
theorem crcTb_eq {n : Nat} (h : n < 16) : crcTb n = tabN n := by
  have : ∀ k : Fin 16, crcTb k.1 = tabN k.1 := by decide
  exact this ⟨n, h⟩
theorem crcN_eq {x y : Nat} (hx : x < 4294967296) (hy : y < 16) : crcN x y = nibN x y := by
  unfold crcN nibN
  rw [show Nat.xor (x / 268435456) y = x / 268435456 ^^^ y from rfl, crcTb_eq (nib_ix hx hy)]
  rfl
theorem tabL_ok : ∀ {l : List Value} {n : Nat}, tabL n l = true → ∀ k, n + k < 16 → l[k]? = some (.int .u32 (tabN (n + k) : Nat))
  | [], n, h, _, _ => by unfold tabL at h; cases h
  | x :: l, n, h, k, hk => by
    unfold tabL at h
    split at h
    · rename_i n _ _ y l0 h0
      obtain ⟨rfl, rfl⟩ := List.cons.inj h0
      simp only [Bool.and_eq_true, Bool.or_eq_true, Nat.ble_eq] at h
      obtain ⟨h1, h2⟩ := h
      cases k with
      | zero =>
        rw [Nat.eq_of_beq_eq_true h1, crcTb_eq (by omega)]
        rfl
      | succ k =>
        have h3 : tabL (n + 1) l = true := h2.resolve_left (by omega)
        have := tabL_ok h3 k (by omega)
        rw [List.getElem?_cons_succ, this]
        rw [show n + 1 + k = n + (k + 1) by omega]
    · cases h
/-- Numbers of eight bits, as bytes. -/
def bytesL : List Value → List UInt8
  | .int .u8 (.ofNat y) :: l => UInt8.ofNat y :: bytesL l
  | _ => []
theorem crcL_ok : ∀ {l : List Value} {x r : Nat}, x < 4294967296 → crcL x l = some r → r = crcR x (bytesL l) ∧ (bytesL l).length = l.length ∧ ∀ (i : Nat) (hi : i < (bytesL l).length), l[i]? = some (.int .u8 ((bytesL l)[i]).toNat)
  | [], x, r, _, h => by
    unfold crcL at h
    cases h
    exact ⟨rfl, rfl, fun i hi => by cases hi⟩
  | v :: l, x, r, hx, h => by
    unfold crcL at h
    split at h
    · rename_i h0; cases h0
    · rename_i x _ _ y l0 h0
      obtain ⟨rfl, rfl⟩ := List.cons.inj h0
      cases hy : Nat.ble y 255 with
      | false => rw [hy] at h; cases h
      | true =>
        rw [hy, cond_true] at h
        have hy' : y ≤ 255 := Nat.le_of_ble_eq_true hy
        have e1 : crcN x (y / 16) = nibN x (y / 16) := crcN_eq hx (by omega)
        have e2 : crcN (nibN x (y / 16)) (y % 16) = nibN (nibN x (y / 16)) (y % 16) := crcN_eq (nibN_lt _ _) (by omega)
        rw [e1, e2] at h
        obtain ⟨i1, i2, i3⟩ := crcL_ok (nibN_lt _ _) h
        have hb : (UInt8.ofNat y).toNat = y := by simp; omega
        refine ⟨?_, by simp [bytesL, i2], fun i hi => ?_⟩
        · rw [i1]
          rw [show bytesL (.int .u8 (.ofNat y) :: l) = UInt8.ofNat y :: bytesL l from rfl]
          unfold crcR
          rw [List.foldl_cons, hb]
          rfl
        · cases i with
          | zero => simp only [bytesL, List.getElem?_cons_zero, List.getElem_cons_zero, hb]; rfl
          | succ i => exact i3 i (by simpa [bytesL] using hi)
    · cases h
theorem crc_pieces {κ : K} (H : HR P κ h.m w) {b off n c : Nat} {l : List Value} {x r : Nat} (hx : x < 4294967296) (hl : ldAt h b off n = some l) (hr : crcL x l = some r) {v' : Value} (rv : VR κ (.slice (some ⟨b, off, none⟩) n c) v') :
    r = crcR x (bytesL l) ∧ ∃ A cp, v' = .slice A (bytesL l).length cp ∧ ∀ (i : Nat) (hi : i < (bytesL l).length), ∃ b o, A = some ⟨b, o, none⟩ ∧ w.cell? ⟨b, o + i, none⟩ = some (.int .u8 (bytesL l)[i].toNat) := by
  obtain ⟨c1, c2, c3⟩ := crcL_ok hx hr
  unfold ldAt at hl
  split at hl
  · rename_i cs t fr hb
    dsimp only at hl
    cases hq : Nat.beq ((cs.drop off).take n).length n with
    | false => rw [hq] at hl; cases hl
    | true =>
      rw [hq] at hl
      have hn := Nat.eq_of_beq_eq_true hq
      cases hl
      obtain ⟨hd, c', fz, ho, _, hle, hnn, _, hc⟩ := cells_ok H hb
      cases rv with
      | slice _ _ _ _ off' cap' _ hs =>
        refine ⟨c1, some ⟨κ.p b, off', none⟩, cap', by rw [c2, hn], fun i hi => ⟨κ.p b, off', rfl, ?_⟩⟩
        have hi2 : i < n := by rw [c2, hn] at hi; exact hi
        have ho' : off' = off := by
          rcases hs.2 with q | q
          · exact q.2.2
          · exact q.2.2.1 (by have := hs.1; omega)
        have h3 := c3 i hi
        rw [List.getElem?_take, if_pos hi2, List.getElem?_drop] at h3
        obtain ⟨u, hu, ru⟩ := hc (off + i) _ h3
        cases ru
        rw [ho']
        simp [World.cell?, ho, hu]
  · cases hl
theorem crcH_ok {f : Nat} {g : Hp → Bool} (hC : ∀ (κ : K) (h : Hp) (w : World), g h = true → HR Tryz.prog κ h.m w → ∀ (A : Option Addr) (cp c : Nat) (bs : List UInt8), c ≤ 4294967295 → bs.length ≤ 9223372036854775807 →
      (∀ (i : Nat) (hi : i < bs.length), ∃ b o, A = some ⟨b, o, none⟩ ∧ w.cell? ⟨b, o + i, none⟩ = some (.int .u8 bs[i].toNat)) →
      Calls Tryz.prog f #[.int .u32 c, .slice A bs.length cp] w fun e w' => e = .returned (.int .u32 (crcF c bs : Nat)) ∧ w' = w) : HkOk ro f fun args h => cond (g h) (crcH args h) none := by
  intro args h v h' hx
  have hx0 : cond (g h) (crcH args h) none = some (v, h') := hx
  cases hg : g h with
  | false => rw [hg] at hx0; cases hx0
  | true =>
    rw [hg, cond_true] at hx0
    unfold crcH at hx0
    split at hx0
    · rename_i c cp
      cases hc : Nat.ble c 4294967295 with
      | false => rw [hc] at hx0; cases hx0
      | true =>
        rw [hc, cond_true] at hx0
        cases hx0
        have hcl : c ≤ 4294967295 := Nat.le_of_ble_eq_true hc
        refine ⟨Up.refl _, fun κ w args' H rl _ => ?_⟩
        obtain ⟨y1, y2, rfl, r1, r2⟩ := arg2 rl
        cases r1
        cases r2
        refine (hC κ h w hg H none 0 c [] hcl (by simp) (fun i hi => by cases hi)).mono ?_
        rintro e w' ⟨rfl, rfl⟩
        refine ⟨_, rfl, κ, H, Gone.refl H, ?_⟩
        have : crcF c [] = c := by simp [crcF, crcR]; omega
        rw [this]
        exact .int _ _
    · rename_i c b off n cp
      cases hc : Nat.ble c 4294967295 && Nat.ble n 1099511627776 with
      | false => rw [hc] at hx0; cases hx0
      | true =>
        rw [hc, cond_true] at hx0
        rw [Bool.and_eq_true] at hc
        have hcl : c ≤ 4294967295 := Nat.le_of_ble_eq_true hc.1
        have hnl : n ≤ 1099511627776 := Nat.le_of_ble_eq_true hc.2
        split at hx0
        · rename_i l hl
          split at hx0
          · rename_i r hr
            cases hx0
            refine ⟨Up.refl _, fun κ w args' H rl _ => ?_⟩
            obtain ⟨y1, y2, rfl, r1, r2⟩ := arg2 rl
            cases r1
            obtain ⟨e1, A, cp', rfl, hs⟩ := crc_pieces H (by omega) hl hr r2
            have hln : (bytesL l).length ≤ 9223372036854775807 := by
              have := (crcL_ok (by omega) hr).2.1
              rw [this]
              unfold ldAt at hl
              split at hl
              · rename_i cs _ _ _
                dsimp only at hl
                cases hq : Nat.beq ((cs.drop off).take n).length n with
                | false => rw [hq] at hl; cases hl
                | true => rw [hq] at hl; cases hl; rw [List.length_take]; omega
              · cases hl
            refine (hC κ h w hg H A cp' c (bytesL l) hcl hln hs).mono ?_
            rintro e w' ⟨rfl, rfl⟩
            refine ⟨_, rfl, κ, H, Gone.refl H, ?_⟩
            rw [show crcF c (bytesL l) = 4294967295 - r by unfold crcF; rw [e1]]
            exact .int _ _
          · cases hx0
        · cases hx0
    · cases hx0
theorem crcUpd_ok : HkOk ro 188 fun args h => cond (tabB h) (crcH args h) none :=
  crcH_ok fun κ h w hg H A cp c bs hc hb hs => by
    refine crc_raw hc (fun k hk => ?_) hb hs
    unfold tabB at hg
    split at hg
    · rename_i cs t fr hm
      obtain ⟨_, c', fz, ho, _, _, _, _, hcc⟩ := cells_ok H hm
      obtain ⟨v', hv, rv⟩ := hcc k _ (by have := tabL_ok hg k (by omega); rw [Nat.zero_add] at this; exact this)
      cases rv
      rw [(H.glob 3 (of_decide_eq_true (by kernel_rfl))).2] at ho
      simp [World.cell?, ho, hv]
    · cases hg
theorem crcRef_ok : HkOk ro 203 crcH := by
  have := crcH_ok (ro := ro) (f := 203) (g := fun _ => true) fun κ h w _ H A cp c bs hc hb hs => refCrc_raw hc hb hs
  exact this
set_option maxRecDepth 100000 in
theorem nameN_eq (c : UInt8) : nameN c.toNat = nameC c := by
  unfold nameN nameC
  have : c.toNat < 256 := c.toNat_lt
  generalize c.toNat = n at this
  revert n
  decide
theorem nameH_ok {f : Nat} (hC : ∀ (w : World) (s : ByteArray), Calls Tryz.prog f #[.string s] w fun e w' => e = .returned (.bool (nameF s.data.toList)) ∧ w' = w) : HkOk ro f nameH := by
  intro args h v h' hx
  unfold nameH at hx
  split at hx
  · rename_i s
    cases hx
    refine ⟨Up.refl _, fun κ w args' H rl _ => ?_⟩
    obtain ⟨y, rfl, ry⟩ := arg1 rl
    obtain rfl := str_inv ry
    refine (hC w s).mono ?_
    rintro e w' ⟨rfl, rfl⟩
    have e1 : nameF s.data.toList = (Nat.ble 1 s.data.toList.length && Nat.ble s.data.toList.length 64 && s.data.toList.all fun c => nameN c.toNat) := by
      unfold nameF
      rw [show (fun c : UInt8 => nameN c.toNat) = nameC from funext nameN_eq]
      congr 1
      rw [Bool.eq_iff_iff]
      simp [Nat.ble_eq]
    rw [e1]
    exact ⟨_, rfl, κ, H, Gone.refl H, .bool _⟩
  · cases hx
theorem fsHook_ok : COk Tryz.prog ro (fsHook ro) := by
  intro f args h v h' hx
  unfold fsHook at hx
  have step : ∀ (n : Nat) (x : List Value → Hp → Option (Value × Hp)) (z : Option (Value × Hp)), HkOk ro n x → cond (Nat.beq f n) (x args h) z = some (v, h') → (z = some (v, h') → Up h h' ∧ ∀ κ w (args' : Array Value), WF h → HR Tryz.prog κ h.m w → LR κ args args'.toList → Free κ h.c h'.c → Calls Tryz.prog f args' w fun e w' => ∃ v', e = .returned v' ∧ Comes' Tryz.prog ro κ h w v h' v' w') →
      Up h h' ∧ ∀ κ w (args' : Array Value), WF h → HR Tryz.prog κ h.m w → LR κ args args'.toList → Free κ h.c h'.c → Calls Tryz.prog f args' w fun e w' => ∃ v', e = .returned v' ∧ Comes' Tryz.prog ro κ h w v h' v' w' := fun n x z hn hc hz => by
    cases hb : Nat.beq f n with
    | true =>
      rw [hb, cond_true] at hc
      obtain rfl := Nat.eq_of_beq_eq_true hb
      exact ⟨(hn args h v h' hc).1, fun κ w args' _ => (hn args h v h' hc).2 κ w args'⟩
    | false =>
      rw [hb, cond_false] at hc
      exact hz hc
  refine step _ _ _ held_ok hx fun hx => ?_
  refine step _ _ _ pend_ok hx fun hx => ?_
  refine step _ _ _ settle_ok hx fun hx => ?_
  refine step _ _ _ names_ok hx fun hx => ?_
  refine step _ _ _ crcUpd_ok hx fun hx => ?_
  refine step _ _ _ crcRef_ok hx fun hx => ?_
  refine step _ _ _ (nameH_ok fun w s => isName_any s) hx fun hx => ?_
  refine step _ _ _ (nameH_ok fun w s => named_any s) hx fun hx => ?_
  cases hx
end
end Ex
end
section
open Go.RowKit
namespace Ex
section
variable {κ : K} {h h' : Hp} {w w' : World} {ro : Nat} {P : Program}
theorem pay_body : ∃ r0 id rest, Tryz.f213.body = some (.seq r0 (.seq (.region id #[⟨some 9, .makeFunc (.func 244) #[] #[.tmp 2, .tmp 4, .tmp 5], 1, "read.go:30", #[], none⟩, ⟨none, .defer { callee := .value (.tmp 9), args := #[], argTypes := #[] }, 0, "read.go:30", #[⟨0, .data⟩], none⟩] false) rest)) := ⟨_, _, _, rfl⟩
theorem pay_reg {n : Nat} {Q : Exit → Act → World → Prop} {a : Act} {id : Nat}
    (hq : Q .normal { a.put (some 9) (.func (.func 244) #[] #[a.eval (.tmp 2), a.eval (.tmp 4), a.eval (.tmp 5)]) with defers := { target := .fn (.func 244) #[a.eval (.tmp 2), a.eval (.tmp 4), a.eval (.tmp 5)], args := #[] } :: a.defers } w) (hs : 9 < a.tmps.size) :
    (Code.region id #[⟨some 9, .makeFunc (.func 244) #[] #[.tmp 2, .tmp 4, .tmp 5], 1, "read.go:30", #[], none⟩, ⟨none, .defer { callee := .value (.tmp 9), args := #[], argTypes := #[] }, 0, "read.go:30", #[⟨0, .data⟩], none⟩] false).wpIn Fence.wide n Tryz.prog Q a w := by
  refine wpIn_region ?_
  show wpOpsIn Fence.wide n Tryz.prog _ Q [0, 1] a w
  have hg : (a.put (some 9) (.func (.func 244) #[] #[a.eval (.tmp 2), a.eval (.tmp 4), a.eval (.tmp 5)])).eval (.tmp 9) = .func (.func 244) #[] #[a.eval (.tmp 2), a.eval (.tmp 4), a.eval (.tmp 5)] := by simp [Act.put, Act.eval, hs]
  simp [wpOpsIn, Region.wanted, Oper.wpIn, Oper.semAt_none, execOp, Result.andThen, Oper.uponIn]
  refine ⟨fun _ _ => trivial, fun _ _ => trivial, ?_⟩
  simp [hg, resolve, Deferred.ofValue]
  exact hq
theorem clo_body : ∃ d0 id1 id2 X, Tryz.f244.body = some (.seq d0 (.seq (.region id1 #[⟨some 13, .call { callee := .builtin .recover, args := #[], argTypes := #[] }, 20, "read.go:32", #[], none⟩, ⟨some 3, .assign (.tmp 13), 20, "read.go:32", #[⟨0, .data⟩, ⟨0, .chain⟩, ⟨0, .phase⟩], none⟩] false)
    (.seq (.region id2 #[⟨some 14, .move (.tmp 3), 20, "read.go:32", #[], none⟩, ⟨some 15, .binOp .neq 20 (.tmp 14) (.const .nilIface) 20, 4, "read.go:32", #[⟨0, .data⟩], none⟩] false) (.cond (.tmp 15) X .skip)))) := ⟨_, _, _, _, rfl⟩
theorem neq_nil {w : World} : (binOp .neq 20 .nilIface .nilIface).run Tryz.prog w = .ok (.bool false) w := by
  have h : ∀ d : Nat, (Op.equalIn (d + 1) 20 .nilIface .nilIface).run Tryz.prog w = .ok true w := fun d => by
    simp [Op.equalIn, run_underlying Tryz.underlying20]
  simp only [binOp]
  simp [Op.equal, Op.maxDepth, h 9999]
theorem clo_tail {n : Nat} {id1 id2 : Nat} {X : Code} {Q : Exit → Act → List Frame → World → Prop} {a : Act} {c : Frame} {cs : List Frame} (hc : c.mode = .returning) (hs : 15 < a.tmps.size)
    (hq : ∀ a' : Act, a'.defers = a.defers → Q .normal a' (c :: cs) w) :
    (Code.seq (.region id1 #[⟨some 13, .call { callee := .builtin .recover, args := #[], argTypes := #[] }, 20, "read.go:32", #[], none⟩, ⟨some 3, .assign (.tmp 13), 20, "read.go:32", #[⟨0, .data⟩, ⟨0, .chain⟩, ⟨0, .phase⟩], none⟩] false)
    (.seq (.region id2 #[⟨some 14, .move (.tmp 3), 20, "read.go:32", #[], none⟩, ⟨some 15, .binOp .neq 20 (.tmp 14) (.const .nilIface) 20, 4, "read.go:32", #[⟨0, .data⟩], none⟩] false) (.cond (.tmp 15) X .skip))).wpSIn Fence.wide n Tryz.prog Q a (c :: cs) w := by
  have hro : Fence.wide.round = none := rfl
  refine wpSIn_seq (wpSIn_region ?_)
  show wpOpsSIn Fence.wide n Tryz.prog _ _ [0, 1] a (c :: cs) w
  have hr : recoverD (c :: cs) = none := by simp [recoverD, hc]
  simp [wpOpsSIn, Region.wanted, execOp, hr, Exit.thenS, resolve, invoke, builtin]
  refine ⟨fun _ _ => trivial, fun _ _ => trivial, ?_⟩
  have e13 : (a.put (some 13) .nilIface).eval (.tmp 13) = .nilIface := by simp [Act.put, Act.eval]; omega
  rw [e13]
  generalize hb : (a.put (some 13) .nilIface).put (some 3) .nilIface = b
  have b3 : b.eval (.tmp 3) = .nilIface := by rw [← hb]; simp [Act.put, Act.eval]; omega
  have bs : 15 < b.tmps.size := by rw [← hb]; simpa [Act.put] using hs
  have bd : b.defers = a.defers := by rw [← hb]; rfl
  refine wpSIn_seq (wpSIn_region ?_)
  show wpOpsSIn Fence.wide n Tryz.prog _ _ [0, 1] b (c :: cs) w
  have e14 : (b.put (some 14) .nilIface).eval (.tmp 14) = .nilIface := by simp [Act.put, Act.eval]; omega
  have ec : (b.put (some 14) .nilIface).eval (.const .nilIface) = .nilIface := rfl
  have hgd : eqGuard .neq 20 (.tmp 14) (.const .nilIface) .nilIface .nilIface = pure () := rfl
  simp [wpOpsSIn, Region.wanted, execOp, Exit.thenS, Result.andThen, b3, e14, ec, hgd, neq_nil]
  refine ⟨fun _ _ => trivial, fun _ _ => trivial, ?_⟩
  have e15 : ((b.put (some 14) .nilIface).put (some 15) (.bool false)).eval (.tmp 15) = .bool false := by simp [Act.put, Act.eval]; omega
  have hd : ((b.put (some 14) .nilIface).put (some 15) (.bool false)).defers = a.defers := by rw [← bd]; simp [Act.put]
  have hQ := hq _ hd
  exact wpSIn_cond (t := false) e15 (wpSIn_of_wpIn hro (wpIn_skip hQ))
theorem clo_name : (Tryz.f244.name == "runtime.NumGoroutine") = false := by kernel_rfl
theorem pay_ok {ev : Option Nat → Nat → Code → St → Option (Ex × St)} (hE : EvOk Tryz.prog ro ev) {args : List Value} {v : Value} (hx : deferH ev Tryz.prog 213 244 9 [2, 4, 5] args h = some (v, h')) : Up h h' ∧
    ∀ κ w (args' : Array Value), WF h → HR Tryz.prog κ h.m w → LR κ args args'.toList → Free κ h.c h'.c → Calls Tryz.prog 213 args' w fun e w' => ∃ v', e = .returned v' ∧ Comes' Tryz.prog ro κ h w v h' v' w' := by
  obtain ⟨r0, id, rest, hb⟩ := pay_body
  obtain ⟨d0, id1, id2, X, hb2⟩ := clo_body
  unfold deferH at hx
  rw [Tryz.func213, Tryz.func244] at hx
  simp only [hb, hb2] at hx
  have hle : args.length ≤ Tryz.f213.ntmps := Decidable.byContradiction fun q => by rw [bleF q] at hx; cases hx
  rw [bleT hle, cond_true] at hx
  split at hx
  · rename_i st0 hev0
    split at hx
    · rename_i hdl0
      split at hx
      · rename_i cs hcs
        split at hx
        · rename_i ts1 hts
          split at hx
          · rename_i st1 hev1
            split at hx
            · rename_i hdl1
              split at hx
              · rename_i st2 hev2
                split at hx
                · rename_i hdl2
                  split at hx
                  · rename_i vs hres
                    simp only [Option.some.injEq, Prod.mk.injEq] at hx
                    obtain ⟨rfl, rfl⟩ := hx
                    obtain ⟨u0, k0⟩ := hE _ _ _ _ _ _ hev0
                    obtain ⟨u1, k1⟩ := hE _ _ _ _ _ _ hev1
                    obtain ⟨u2, k2⟩ := hE _ _ _ _ _ _ hev2
                    have u02 : Up h st2.h := (u0.trans u1).trans u2
                    refine ⟨⟨u02.1, fun w => ⟨(u02.2 w).1, fun i hi => ?_⟩⟩, fun κ w args' W H r hf => ?_⟩
                    · rcases cut_mem.1 hi with q | q
                      · have := w.2 i q; have := u02.1; simp only at *; omega
                      · exact (u02.2 w).2 i q.1
                    · have hf2 : Free κ h.c st2.h.c := hf
                      have m0 := u0.1
                      have m1 := u1.1
                      have m2 := u2.1
                      refine (callsIn_wide (n := 6)).1 (callsIn_of_wp_defers Tryz.func213 hb trivial (wpIn_seq ?_))
                      obtain ⟨T, hn⟩ := putArgs_ok (nt := Tryz.f213.ntmps) r hle
                      refine k0 [] κ none _ w _ 6 W H T hn ⟨fun _ q => by simp at q, rfl⟩ trivial (Free.le hf2 (by simp only at *; omega)) ?_
                      intro κ0 a0 w0 H0 G0 T0 n0 D0
                      rw [hdl0] at D0
                      obtain ⟨_, D0⟩ := D0
                      have D0 : a0.defers = [] := D0
                      refine wpIn_seq (pay_reg ?_ (by rw [n0]; decide))
                      have hcs' : LR κ0 cs [a0.eval (.tmp 2), a0.eval (.tmp 4), a0.eval (.tmp 5)] := evAll_lr H0.glob T0 hcs
                      have rfv : VR κ0 (.func (.func 244) #[] cs.toArray) (.func (.func 244) #[] #[a0.eval (.tmp 2), a0.eval (.tmp 4), a0.eval (.tmp 5)]) :=
                        .func _ _ _ _ _ rfl (fun i v v' q => by simp at q) (by have := hcs'.1; simpa using this) fun i v v' p q => hcs'.2 i v v' (by simpa using p) (by simpa using q)
                      obtain ⟨T1, n1, d1⟩ := T0.put n0 rfv hts
                      obtain ⟨d, hd⟩ : ∃ d : Deferred, d = { target := .fn (.func 244) #[a0.eval (.tmp 2), a0.eval (.tmp 4), a0.eval (.tmp 5)], args := #[] } := ⟨_, rfl⟩
                      obtain ⟨a1, ha1⟩ : ∃ a1 : Act, a1 = { a0.put (some 9) (.func (.func 244) #[] #[a0.eval (.tmp 2), a0.eval (.tmp 4), a0.eval (.tmp 5)]) with defers := d :: a0.defers } := ⟨_, rfl⟩
                      show rest.wpIn Fence.wide 6 Tryz.prog _ { a0.put (some 9) (.func (.func 244) #[] #[a0.eval (.tmp 2), a0.eval (.tmp 4), a0.eval (.tmp 5)]) with defers := { target := .fn (.func 244) #[a0.eval (.tmp 2), a0.eval (.tmp 4), a0.eval (.tmp 5)], args := #[] } :: a0.defers } w0
                      rw [← hd, ← ha1]
                      have t1 : a1.tmps = (a0.put (some 9) (.func (.func 244) #[] #[a0.eval (.tmp 2), a0.eval (.tmp 4), a0.eval (.tmp 5)])).tmps := by rw [ha1]
                      have e1 : a1.defers = [d] := by rw [ha1]; show d :: a0.defers = [d]; rw [D0]
                      have hf0 : Free κ0 st0.h.c st2.h.c := Free.next hf2 G0
                      refine k1 [d] κ0 none a1 w0 _ 6 (u0.2 W) H0 (by rw [t1]; exact T1) (by rw [t1]; exact n1) ⟨fun _ q => by simp at q, by rw [e1]; rfl⟩ trivial (Free.le hf0 (by simp only at *; omega)) ?_
                      intro κ1 a2 w1 H1 G1 T2 n2 D2
                      have G01 := G0.trans G1
                      have D2' : a2.defers = [d] := by have := D2.2; rw [hdl1] at this; exact this
                      show LeavesIn Fence.wide 6 Tryz.prog Tryz.f213 a2.tmps _ a2.defers .returning w1
                      rw [D2']
                      have hcs1 : LR κ1 cs (#[a0.eval (.tmp 2), a0.eval (.tmp 4), a0.eval (.tmp 5)] : Array Value).toList := hcs'.ext G1.ext
                      have hle2 : cs.length ≤ Tryz.f244.ntmps := by rw [hcs'.1]; exact (by decide : 3 ≤ Tryz.f244.ntmps)
                      obtain ⟨T3, n3⟩ := putArgs_ok (nt := Tryz.f244.ntmps) hcs1 hle2
                      have hf1 : Free κ1 st1.h.c st2.h.c := Free.next hf0 G1
                      refine ⟨by simp, fun q => (by cases q), _, _, 244, #[a0.eval (.tmp 2), a0.eval (.tmp 4), a0.eval (.tmp 5)], (by rw [hd]), ?_, fun _ _ => trivial, ?_⟩
                      · rw [hd]
                        simp only [invoke, callFunc, Sem.run_bind, run_program, Result.andThen_ok, Tryz.func244, clo_name, Bool.false_eq_true, if_false, hb2, Option.isNone_some, Sem.run_pure]
                        rfl
                      · refine callsDIn_of_wpSIn Tryz.func244 hb2 trivial fun c0 cs0 hm => wpSIn_seq (wpSIn_of_wpIn rfl ?_)
                        refine k2 [] κ1 none _ w1 _ 5 ((u0.trans u1).2 W) H1 T3 n3 ⟨fun _ q => by simp at q, rfl⟩ trivial hf1 ?_
                        intro κ2 a3 w2 H2 G2 T4 n4 D4
                        have D4' : a3.defers = [] := by have := D4.2; rw [hdl2] at this; exact this
                        refine clo_tail hm (by rw [n4]; decide) fun a' ha' => ?_
                        refine ⟨ha'.trans D4', .returning, by rw [← hm], .tuple #[], by simp [results, Tryz.results244, go_sem], ?_⟩
                        obtain ⟨vs', rv, hrun⟩ := res_ok H2 (T2.ext G2.ext) hres
                        refine ⟨_, ?_, _, rfl, κ2, H2, (G01.trans G2).cut, one_ok rv⟩
                        unfold results
                        simp only [Sem.run_bind, Array.mapM_eq_mapM_toList, Sem.run_map]
                        exact congrArg (fun q : Result (List Value) => (q.andThen fun a w' => Result.ok a.toArray w').andThen fun a w' => Sem.run Tryz.prog (pure (if h : a.size = 1 then a[0] else .tuple a)) w') hrun
                  · cases hx
                · cases hx
              · cases hx
            · cases hx
          · cases hx
        · cases hx
      · cases hx
    · cases hx
  · cases hx
end
end Ex
end
end Go.Proofs.YtjncnppbaldmiaaGreatDoor
