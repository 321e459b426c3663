/- The evaluator's operations beside the model's: maps written, ranged over. No condition. -/
import Derived.Test.YtgbladpoglhleaaGreatDoorRun6
namespace Go.Proofs.YtgbladpoglhleaaGreatDoor
namespace Ex
section
variable {P : Program} {ro : Nat} {κ : K} {h : Hp} {w : World}
theorem ERs.modify {es es' : List MapEntry} (he : ERs κ es es') (i : Nat) {v v' : Value} (hv : VR κ v v') (f' : MapEntry → MapEntry) (hf : ∀ e', es'[i]? = some e' → f' e' = { e' with val := v' }) :
    ERs κ (es.modify i fun e => { e with val := v }) (es'.modify i f') := by
  refine ⟨by simp [he.1], fun j e e' a b => ?_⟩
  rw [List.getElem?_modify] at a b
  cases hj : es[j]? with
  | none => rw [hj] at a; simp at a
  | some x =>
    cases hj' : es'[j]? with
    | none => rw [hj'] at b; simp at b
    | some x' =>
      have hx := he.2 j x x' hj hj'
      by_cases hij : i = j
      · subst hij
        simp only [hj, if_true, Option.map_some, Option.map_eq_map, Option.some.injEq] at a
        simp only [hj', if_true, Option.map_some, Option.map_eq_map, Option.some.injEq] at b
        rw [hf x' hj'] at b
        subst a; subst b
        exact ⟨hx.1, hv, hx.2.2⟩
      · simp only [hj, hij, if_false, Option.map_some, Option.map_eq_map, Option.some.injEq] at a
        simp only [hj', hij, if_false, Option.map_some, Option.map_eq_map, Option.some.injEq] at b
        subst a; subst b
        exact hx
theorem ERs.snoc {es es' : List MapEntry} (he : ERs κ es es') {e e' : MapEntry} (h : ER κ e e') : ERs κ (es ++ [e]) (es' ++ [e']) := by
  refine ⟨by simp [he.1], fun j x x' a b => ?_⟩
  by_cases hj : j < es.length
  · rw [List.getElem?_append_left hj] at a
    rw [List.getElem?_append_left (by rw [← he.1]; exact hj)] at b
    exact he.2 j x x' a b
  · rw [List.getElem?_append_right (by omega)] at a
    rw [List.getElem?_append_right (by rw [← he.1]; omega), ← he.1] at b
    cases hk : j - es.length with
    | zero => rw [hk] at a b; simp at a b; subst a; subst b; exact h
    | succ k => rw [hk] at a; simp at a
theorem ERs.eraseIdx {es es' : List MapEntry} (he : ERs κ es es') (i : Nat) : ERs κ (es.eraseIdx i) (es'.eraseIdx i) := by
  refine ⟨by simp [List.length_eraseIdx, he.1], fun j x x' a b => ?_⟩
  rw [List.getElem?_eraseIdx] at a b
  split at a
  · rename_i hj; rw [if_pos hj] at b; exact he.2 _ _ _ a b
  · rename_i hj; rw [if_neg hj] at b; exact he.2 _ _ _ a b
theorem update_ok (H : HR P κ h.m w) {t : TypeId} {m m' k k' v v' : Value} {h' : Hp} (rm : VR κ m m') (rk : VR κ k k') (rv : VR κ v v') (e : aupdate P ro t h m k v = some h') :
    h'.c = h.c ∧ ∃ w', (Instr.mapUpdate t m' k' v').run P w = .ok () w' ∧ HR P κ h'.m w' ∧ Gone ro κ κ h h' w w' := by
  unfold aupdate at e
  split at e
  · rename_i kt et hd
    split at e
    · rename_i hk
      split at e
      · rename_i r
        split at e
        · rename_i es clock hob
          cases rm with
          | map _ hr =>
            obtain ⟨_, es', ho', he⟩ := map_obj H hob
            have hg := r_getObj (P := P) ho' (by simp)
            split at e
            · rename_i i v0 hfe
              obtain ⟨r', hfr, hfind⟩ := findKey_ok H hk rk he hfe
              cases r' with
              | none => exact hfr.elim
              | some a =>
                obtain ⟨j, u⟩ := a
                obtain ⟨rfl, _, hlt, _, e', he', rfl, hsb⟩ := hfr
                rw [Nat.sub_zero] at he'
                refine ⟨by rw [(Hp.upd_inv e).2], _, ?_, set_ok H hob e ho' (o' := .map (es'.modify i fun e => { e with key := e'.key, val := v' }) clock) ?_⟩
                · have hks : (((es'[i]?).map (·.key)).getD e'.key) = e'.key := by rw [← Array.getElem?_toList, he']; rfl
                  simp only [Instr.mapUpdate, Sem.run_bind, run_underlying hd, Result.andThen_ok, hg, checkKey_ok hk, hfind, hks, Instr.keyThatStays, hsb, if_true, Sem.run_pure]
                  exact r_setObj ho' (by simp)
                · refine .map _ _ _ ?_
                  rw [Array.toList_modify]
                  exact he.modify i rv _ fun x hx => by rw [he'] at hx; cases hx; rfl
            · rename_i hfe
              obtain ⟨r', hfr, hfind⟩ := findKey_ok H hk rk he hfe
              cases r' with
              | some _ => exact hfr.elim
              | none =>
                refine ⟨by rw [(Hp.upd_inv e).2], _, ?_, set_ok H hob e ho' (o' := .map (es'.push { key := k', val := v', born := clock }) (clock + 1)) ?_⟩
                · simp only [Instr.mapUpdate, Sem.run_bind, run_underlying hd, Result.andThen_ok, hg, checkKey_ok hk, hfind]
                  exact r_setObj ho' (by simp)
                · refine .map _ _ _ ?_
                  rw [Array.toList_push]
                  exact he.snoc ⟨rk, rv, rfl⟩
            · cases e
        · cases e
      · cases e
    · cases e
  · cases e
theorem delete_ok (H : HR P κ h.m w) {t : TypeId} {m m' k k' : Value} {h' : Hp} (rm : VR κ m m') (rk : VR κ k k') (ty : TypeId) (e : adelete P ro t h m k = some h') :
    h'.c = h.c ∧ ∃ w', (Builtin.delete_ #[t] ty #[m', k']).run P w = .ok (.tuple #[]) w' ∧ HR P κ h'.m w' ∧ Gone ro κ κ h h' w w' := by
  unfold adelete at e
  split at e
  · rename_i kt et hd
    split at e
    · rename_i hk
      split at e
      · simp only [Option.some.injEq] at e; subst e
        cases rm with
        | mapNil => exact ⟨rfl, w, by simp [Builtin.delete_, run_underlying hd, checkKey_ok hk], H, Gone.refl H⟩
      · rename_i r
        split at e
        · rename_i es clock hob
          cases rm with
          | map _ hr =>
            obtain ⟨_, es', ho', he⟩ := map_obj H hob
            have hg := r_getObj (P := P) ho' (by simp)
            split at e
            · rename_i i v0 hfe
              obtain ⟨r', hfr, hfind⟩ := findKey_ok H hk rk he hfe
              cases r' with
              | none => exact hfr.elim
              | some a =>
                obtain ⟨j, u⟩ := a
                obtain ⟨rfl, _, hlt, _, e', he', rfl, hsb⟩ := hfr
                have hlt' : i < es'.size := by have := he.1; simp at this; omega
                refine ⟨by rw [(Hp.upd_inv e).2], _, ?_, set_ok H hob e ho' (o' := .map (es'.eraseIdxIfInBounds i) clock) ?_⟩
                · simp only [Builtin.delete_, List.getElem?_toArray, List.getElem?_cons_zero, List.getElem?_cons_succ, Sem.run_bind, run_underlying hd, Result.andThen_ok, hg, checkKey_ok hk, hfind, r_setObj ho' (by simp), Sem.run_pure]
                · refine .map _ _ _ ?_
                  simp only [Array.eraseIdxIfInBounds, hlt', dif_pos, Array.toList_eraseIdx]
                  exact he.eraseIdx i
            · rename_i hfe
              obtain ⟨r', hfr, hfind⟩ := findKey_ok H hk rk he hfe
              cases r' with
              | some _ => exact hfr.elim
              | none =>
                refine ⟨by rw [(Hp.upd_inv e).2], _, ?_, set_ok H hob e ho' (o' := .map es' clock) (.map _ _ _ he)⟩
                simp only [Builtin.delete_, List.getElem?_toArray, List.getElem?_cons_zero, List.getElem?_cons_succ, Sem.run_bind, run_underlying hd, Result.andThen_ok, hg, checkKey_ok hk, hfind, r_setObj ho' (by simp), Sem.run_pure]
            · cases e
        · cases e
      · cases e
    · cases e
  · cases e
theorem ERs.filter {p : Nat → Bool} : ∀ {es es' : List MapEntry}, ERs κ es es' → ERs κ (es.filter fun e => p e.born) (es'.filter fun e => p e.born)
  | [], es', he => by
    cases es' with
    | nil => exact he
    | cons => have := he.1; simp at this
  | e :: es, zs, he => by
    obtain ⟨e', ys, rfl, h1, h2⟩ := he.cons_inv
    have ih := ERs.filter (p := p) h2
    simp only [List.filter_cons, h1.2.2]
    split
    · refine ⟨by simp [ih.1], fun j x x' a b => ?_⟩
      cases j with
      | zero => simp at a b; subst a; subst b; exact h1
      | succ j => exact ih.2 j x x' (by simpa using a) (by simpa using b)
    · exact ih
theorem ERs.all {p : Nat → Bool} : ∀ {es es' : List MapEntry}, ERs κ es es' → (es'.all fun e => p e.born) = es.all fun e => p e.born
  | [], es', he => by
    cases es' with
    | nil => rfl
    | cons => have := he.1; simp at this
  | e :: es, zs, he => by
    obtain ⟨e', ys, rfl, h1, h2⟩ := he.cons_inv
    simp only [List.all_cons, h1.2.2, ERs.all (p := p) h2]
theorem ERs.find {p : Nat → Bool} : ∀ {es es' : List MapEntry} {e : MapEntry}, ERs κ es es' → (es.find? fun e => p e.born) = some e → ∃ e', (es'.find? fun e => p e.born) = some e' ∧ ER κ e e'
  | [], es', e, he, h => by simp at h
  | x :: es, zs, e, he, h => by
    obtain ⟨e', ys, rfl, h1, h2⟩ := he.cons_inv
    simp only [List.find?_cons, h1.2.2] at h ⊢
    cases hp : p x.born with
    | true => simp only [hp, Option.some.injEq] at h ⊢; subst h; exact ⟨e', rfl, h1⟩
    | false => simp only [hp] at h ⊢; exact ERs.find h2 h
theorem ERs.nil_inv {zs : List MapEntry} (h : ERs κ [] zs) : zs = [] := by
  cases zs with
  | nil => rfl
  | cons y ys => have := h.1; simp at this
theorem range_ok (H : HR P κ h.m w) {t : TypeId} {x x' v : Value} {h' : Hp} (r : VR κ x x') (e : arange P t h x = some (v, h')) :
    h'.c = h.c + 1 ∧ (¬κ.dom h.c → ∃ v' w' κ', (Instr.range t x').run P w = .ok v' w' ∧ HR P κ' h'.m w' ∧ Gone ro κ κ' h h' w w' ∧ VR κ' v v') := by
  unfold arange at e
  split at e
  · rename_i s hd
    simp only [Option.some.injEq, Prod.mk.injEq] at e
    obtain ⟨rfl, rfl⟩ := e
    cases r with
    | string _ =>
      refine ⟨rfl, fun hf => ?_⟩
      obtain ⟨a, b⟩ := go_new (ro := ro) (n := 0) (s := 0) (w' := { w with heap := w.heap.push (.stringIter s 0) }) H hf rfl rfl rfl rfl (.str s 0)
      exact ⟨.pointer (some ⟨w.heap.size, 0, none⟩), _, _, by simp [Instr.range, run_underlying hd], a, b, vr_new⟩
  · rename_i hd
    simp only [Option.some.injEq, Prod.mk.injEq] at e
    obtain ⟨rfl, rfl⟩ := e
    cases r with
    | mapNil =>
      refine ⟨rfl, fun hf => ?_⟩
      obtain ⟨a, b⟩ := go_new (ro := ro) (n := 0) (s := 0) (w' := { w with heap := w.heap.push (.mapIter none 0 #[] 0) }) H hf rfl rfl rfl rfl (.iterNil 0 [] 0 #[] rfl)
      exact ⟨.pointer (some ⟨w.heap.size, 0, none⟩), _, _, by simp [Instr.range, run_underlying hd], a, b, vr_new⟩
  · rename_i hd
    split at e
    · rename_i es clock hob
      simp only [Option.some.injEq, Prod.mk.injEq] at e
      obtain ⟨rfl, rfl⟩ := e
      cases r with
      | map _ hr =>
        refine ⟨rfl, fun hf => ?_⟩
        obtain ⟨_, es', ho', he⟩ := map_obj H hob
        have hx := Ext.add w.heap.size 0 0 hf
        have hor := OR.iter (P := P) (κ := κ.add h.c w.heap.size 0 0) (b := h.c) _ clock [] clock #[] (hx.dom _ hr) rfl
        rw [hx.p _ hr] at hor
        obtain ⟨a, b⟩ := go_new (ro := ro) (n := 0) (s := 0) (w' := { w with heap := w.heap.push (.mapIter (some (κ.p _)) clock #[] clock) }) H hf rfl rfl rfl rfl hor
        exact ⟨.pointer (some ⟨w.heap.size, 0, none⟩), _, _, by simp [Instr.range, run_underlying hd, r_getObj (P := P) ho' (by simp)], a, b, vr_new⟩
    · cases e
  · cases e
theorem next_ok (H : HR P κ h.m w) {it it' v : Value} {s : Bool} {h' : Hp} (ty : TypeId) (r : VR κ it it') (e : anext ro h it s = some (v, h')) :
    h'.c = h.c ∧ ∃ v' w', (Instr.next it' s ty).run P w = .ok v' w' ∧ HR P κ h'.m w' ∧ Gone ro κ κ h h' w w' ∧ VR κ v v' := by
  have over : ∀ κ, VR κ (.tuple #[.bool false]) (.tuple #[.bool false]) := fun κ => (LR.cons (.bool false) (LR.nil κ)).tuple
  unfold anext at e
  split at e
  · rename_i b
    cases r with
    | ptr _ _ hb =>
      split at e
      · rename_i str pos hob
        obtain ⟨_, o', ho', hor⟩ := H.obj b _ hob
        cases hor with
        | str =>
          have hg := r_getObj (P := P) ho' (by simp)
          split at e
          · rename_i hlt
            split at e
            · rename_i h2 hu
              simp only [Option.some.injEq, Prod.mk.injEq] at e
              obtain ⟨rfl, rfl⟩ := e
              refine ⟨by rw [(Hp.upd_inv hu).2], .tuple #[.bool true, goInt pos, .int .i32 (Utf8.decode str pos).1], { w with heap := w.heap.setIfInBounds (κ.p b) (.stringIter str (pos + (Utf8.decode str pos).2)) }, ?_, ?_⟩
              rotate_left
              · obtain ⟨a, b⟩ := set_ok H hob hu ho' (o' := .stringIter str (pos + (Utf8.decode str pos).2)) (.str _ _)
                exact ⟨a, b, (LR.cons (.bool true) (LR.cons (.int _ _) (LR.cons (.int _ _) (LR.nil κ)))).tuple⟩
              · simp only [Instr.next, Sem.run_bind, hg, Result.andThen_ok, hlt, if_true, r_setObj (P := P) ho' (by simp), Sem.run_pure]
            · cases e
          · rename_i hlt
            simp only [Option.some.injEq, Prod.mk.injEq] at e
            obtain ⟨rfl, rfl⟩ := e
            exact ⟨rfl, _, w, by simp only [Instr.next, Sem.run_bind, hg, Result.andThen_ok, hlt, if_false, Sem.run_pure], H, Gone.refl H, over κ⟩
      · rename_i since seen last hob
        simp only [Option.some.injEq, Prod.mk.injEq] at e
        obtain ⟨rfl, rfl⟩ := e
        obtain ⟨_, o', ho', hor⟩ := H.obj b _ hob
        cases hor with
        | iterNil =>
          have hg := r_getObj (P := P) ho' (by simp)
          exact ⟨rfl, _, w, by simp only [Instr.next, Sem.run_bind, hg, Result.andThen_ok, Sem.run_pure], H, Gone.refl H, over κ⟩
      · rename_i m since seen last hob
        obtain ⟨_, o', ho', hor⟩ := H.obj b _ hob
        cases hor with
        | iter _ _ _ _ seen' hm hseen =>
          have hg := r_getObj (P := P) ho' (by simp)
          split at e
          · rename_i es clock hom
            obtain ⟨_, es', hm', he⟩ := map_obj H hom
            have hgm := r_getObj (P := P) hm' (by simp)
            subst hseen
            have hemp : seen'.isEmpty = seen'.toList.isEmpty := by simp
            have hnext : ∀ oe, nextE es since seen'.toList last = some oe →
                (!seen'.isEmpty && !es'.isEmpty && es'.all (·.born ≥ last)) = false ∧
                ∃ old new : Array MapEntry, (es'.filter fun e => !seen'.contains e.born).filter (·.born < since) = old ∧ (es'.filter fun e => !seen'.contains e.born).filter (·.born ≥ since) = new ∧
                  (match oe with | none => old = #[] ∧ new = #[] | some x => ∃ x', old = #[x'] ∧ new = #[] ∧ ER κ x x') := by
              intro oe hoe
              unfold nextE at hoe
              split at hoe
              · cases hoe
              · rename_i hc
                have hlen : es'.isEmpty = es.isEmpty := by
                  rw [← Array.isEmpty_toList]
                  cases es with
                  | nil =>
                    have h0 := he.1
                    cases hq : es'.toList with
                    | nil => rfl
                    | cons x xs => rw [hq] at h0; simp at h0
                  | cons x xs => obtain ⟨y, ys, hy, _, _⟩ := he.cons_inv; rw [hy]; rfl
                refine ⟨?_, ?_⟩
                · have h1 := he.all (p := fun n => decide (n ≥ last))
                  rw [Array.all_toList] at h1
                  rw [hlen, hemp, h1]
                  simpa only [Bool.not_eq_true] using hc
                · have f1 := he.filter (p := fun n => !seen'.toList.contains n)
                  have f2 := f1.filter (p := fun n => decide (n < since))
                  have f3 := f1.filter (p := fun n => decide (n ≥ since))
                  have cc : (fun e : MapEntry => !seen'.toList.contains e.born) = (fun e : MapEntry => !seen'.contains e.born) := by funext e; simp
                  refine ⟨_, _, rfl, rfl, ?_⟩
                  have l2 : ((es'.filter fun e => !seen'.contains e.born).filter (·.born < since)).toList = (es'.toList.filter fun e => !seen'.toList.contains e.born).filter fun e => decide (e.born < since) := by
                    rw [Array.toList_filter, Array.toList_filter, cc]
                  have l3 : ((es'.filter fun e => !seen'.contains e.born).filter (·.born ≥ since)).toList = (es'.toList.filter fun e => !seen'.toList.contains e.born).filter fun e => decide (e.born ≥ since) := by
                    rw [Array.toList_filter, Array.toList_filter, cc]
                  have nil : ∀ {a : Array MapEntry} {l : List MapEntry}, a.toList = l → l = [] → a = #[] := fun h1 h2 => by apply Array.ext'; rw [h1, h2]
                  split at hoe
                  · rename_i g1 g2
                    simp only [Option.some.injEq] at hoe; subst hoe
                    rw [g1] at f2; rw [g2] at f3
                    exact ⟨nil l2 f2.nil_inv, nil l3 f3.nil_inv⟩
                  · rename_i x g1 g2
                    simp only [Option.some.injEq] at hoe; subst hoe
                    rw [g1] at f2; rw [g2] at f3
                    obtain ⟨x', ys, hy, hx, hys⟩ := f2.cons_inv
                    have : ys = [] := hys.nil_inv
                    subst this
                    exact ⟨x', by apply Array.ext'; rw [l2, hy], nil l3 f3.nil_inv, hx⟩
                  · cases hoe
            split at e
            · rename_i hne
              simp only [Option.some.injEq, Prod.mk.injEq] at e
              obtain ⟨rfl, rfl⟩ := e
              obtain ⟨h1, old, new, ho, hn, rfl, rfl⟩ := hnext none hne
              refine ⟨rfl, _, w, ?_, H, Gone.refl H, over κ⟩
              simp only [Instr.next, Sem.run_bind, hg, Result.andThen_ok, hgm, h1, Bool.false_eq_true, if_false, ho, hn, run_choose]
              have : (if (#[] : Array MapEntry).isEmpty = true then (#[none] : Array (Option MapEntry)) else #[]) ++ Array.map some (#[] ++ #[]) = #[none] := by simp
              rw [this]
              have hf : (Question.mapNext (#[none] : Array (Option MapEntry)).size).forced = true := rfl
              simp only [hf, if_true, Result.andThen_ok, List.getElem?_toArray, List.getElem?_cons_zero, Sem.run_pure]
            · rename_i x hne
              split at e
              · rename_i h2 hu
                simp only [Option.some.injEq, Prod.mk.injEq] at e
                obtain ⟨rfl, rfl⟩ := e
                obtain ⟨h1, old, new, ho, hn, x', rfl, rfl, hx⟩ := hnext (some x) hne
                refine ⟨by rw [(Hp.upd_inv hu).2], .tuple #[.bool true, x'.key, x'.val], { w with heap := w.heap.setIfInBounds (κ.p b) (.mapIter (some (κ.p m)) since (seen'.push x'.born) clock) }, ?_, ?_⟩
                · simp only [Instr.next, Sem.run_bind, hg, Result.andThen_ok, hgm, h1, Bool.false_eq_true, if_false, ho, hn, run_choose]
                  have : (if (#[x'] : Array MapEntry).isEmpty = true then (#[none] : Array (Option MapEntry)) else #[]) ++ Array.map some (#[x'] ++ #[]) = #[some x'] := by simp
                  rw [this]
                  have hf : (Question.mapNext (#[some x'] : Array (Option MapEntry)).size).forced = true := rfl
                  simp only [hf, if_true, Result.andThen_ok, List.getElem?_toArray, List.getElem?_cons_zero, Sem.run_bind, r_setObj (P := P) ho' (by simp), Sem.run_pure]
                · obtain ⟨a, b⟩ := set_ok H hob hu ho' (o' := .mapIter (some (κ.p m)) since (seen'.push x'.born) clock) (.iter m since _ clock _ hm (by rw [Array.toList_push, hx.2.2]))
                  exact ⟨a, b, (LR.cons (.bool true) (LR.cons hx.1 (LR.cons hx.2.1 (LR.nil κ)))).tuple⟩
              · cases e
            · cases e
          · cases e
      · cases e
  · cases e
theorem entry_ok (H : HR P κ h.m w) {it it' v : Value} (r : VR κ it it') (e : aentry h it = some v) : ∃ v', (Instr.entry it').run P w = .ok v' w ∧ VR κ v v' := by
  unfold aentry at e
  split at e
  · rename_i b
    cases r with
    | ptr _ _ hb =>
      split at e
      · rename_i m since seen stepped hob
        obtain ⟨_, o', ho', hor⟩ := H.obj b _ hob
        cases hor with
        | iter _ _ _ _ seen' hm hseen =>
          have hg := r_getObj (P := P) ho' (by simp)
          split at e
          · rename_i stamp es clock hst hom
            obtain ⟨_, es', hm', he⟩ := map_obj H hom
            have hgm := r_getObj (P := P) hm' (by simp)
            split at e
            · rename_i hcl
              split at e
              · rename_i x hfx
                simp only [Option.some.injEq] at e; subst e
                obtain ⟨x', hfx', hx⟩ := he.find (p := fun n => n == stamp) hfx
                rw [Array.find?_toList] at hfx'
                rw [← hseen, Array.getLast?_toList] at hst
                refine ⟨_, ?_, (LR.cons hx.1 (LR.cons hx.2.1 (LR.nil κ))).tuple⟩
                have hne : (clock != stepped) = false := by simp [hcl]
                simp only [Instr.entry, Sem.run_bind, hg, Result.andThen_ok, hst, hgm, hne, Bool.false_eq_true, if_false, hfx', Sem.run_pure]
              · cases e
            · cases e
          · cases e
      · cases e
  · cases e
end
end Ex
end Go.Proofs.YtgbladpoglhleaaGreatDoor
