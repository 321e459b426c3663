/- The evaluator's operations beside the model's: composites, append, copy. No condition. -/
import Derived.Test.YtgbladpoglhleaaGreatDoorRun7
namespace Go.Proofs.YtgbladpoglhleaaGreatDoor
namespace Ex
section
variable {P : Program} {ro : Nat} {κ : K} {h : Hp} {w : World}
theorem HR.world {m : Tr AO} {w' : World} (H : HR P κ m w) (e : w'.heap = w.heap) : HR P κ m w' := ⟨fun i o hi => by rw [e]; exact H.obj i o hi, H.inj, H.glob⟩
theorem LR.set {xs ys : List Value} (r : LR κ xs ys) (i : Nat) {v v' : Value} (rv : VR κ v v') : LR κ (xs.set i v) (ys.set i v') := by
  refine ⟨by simp [r.1], fun j u u' a b => ?_⟩
  rw [List.getElem?_set] at a b
  by_cases hij : i = j
  · rw [if_pos hij] at a b
    split at a
    · rename_i h1
      rw [if_pos (by rw [← r.1]; exact h1)] at b
      cases a; cases b; exact rv
    · cases a
  · rw [if_neg hij] at a b; exact r.2 j u u' a b
theorem fold_lr (off : Nat) : ∀ (xs xs' : List Value) (k : Nat) (cs cs' : Array Value), LR κ xs xs' → LR κ cs.toList cs'.toList →
    LR κ ((xs.zipIdx k).foldl (fun (cs : Array Value) (p : Value × Nat) => cs.setIfInBounds (off + p.2) p.1) cs).toList ((xs'.zipIdx k).foldl (fun (cs : Array Value) (p : Value × Nat) => cs.setIfInBounds (off + p.2) p.1) cs').toList
  | [], xs', k, cs, cs', r, rc => by rw [r.nil_inv]; exact rc
  | x :: xs, zs, k, cs, cs', r, rc => by
    obtain ⟨y, ys, rfl, h1, h2⟩ := r.cons_inv
    simp only [List.zipIdx_cons, List.foldl_cons]
    refine fold_lr off xs ys (k + 1) _ _ h2 ?_
    rw [Array.toList_setIfInBounds, Array.toList_setIfInBounds]
    exact rc.set _ h1
def PR (κ : K) (ps ps' : List (Nat × Value)) : Prop := ps.length = ps'.length ∧ ∀ (i : Nat) p p', ps[i]? = some p → ps'[i]? = some p' → p'.1 = p.1 ∧ VR κ p.2 p'.2
theorem PR.cons_inv {p : Nat × Value} {ps zs : List (Nat × Value)} (h : PR κ (p :: ps) zs) : ∃ p' ps', zs = p' :: ps' ∧ p'.1 = p.1 ∧ VR κ p.2 p'.2 ∧ PR κ ps ps' := by
  cases zs with
  | nil => have := h.1; simp at this
  | cons y ys => exact ⟨y, ys, rfl, (h.2 0 p y rfl rfl).1, (h.2 0 p y rfl rfl).2, by simpa using h.1, fun i v v' a b => h.2 (i + 1) v v' (by simpa using a) (by simpa using b)⟩
theorem fill_ok (place : Nat → Option (Nat × Nat)) : ∀ (ps ps' : List (Nat × Value)) (cs cs' out : Array Value), PR κ ps ps' → LR κ cs.toList cs'.toList → Instr.fill place cs ps = some out →
    ∃ out', Instr.fill place cs' ps' = some out' ∧ LR κ out.toList out'.toList
  | [], ps', cs, cs', out, r, rc, e => by
    have : ps' = [] := by
      cases ps' with
      | nil => rfl
      | cons => have := r.1; simp at this
    subst this
    simp only [Instr.fill, Option.some.injEq] at e; subst e
    exact ⟨cs', rfl, rc⟩
  | (i, v) :: ps, zs, cs, cs', out, r, rc, e => by
    obtain ⟨⟨i', v'⟩, ps', rfl, h1, h2, h3⟩ := r.cons_inv
    simp only at h1 h2; subst h1
    simp only [Instr.fill] at e ⊢
    cases hp : place i' with
    | none => rw [hp] at e; cases e
    | some q =>
      obtain ⟨off, size⟩ := q
      rw [hp] at e
      simp only at e ⊢
      have hv := h2.cells
      have s1 : v'.cells.size = v.cells.size := by simpa using hv.1.symm
      have s2 : cs'.size = cs.size := by simpa using rc.1.symm
      rw [s1, s2]
      split at e
      · cases e
      · rename_i hc
        rw [if_neg hc]
        refine fill_ok place ps ps' _ _ out h3 ?_ e
        have := fold_lr off v.cells.toList v'.cells.toList 0 cs cs' hv rc
        rw [← Array.foldl_toList, ← Array.foldl_toList, Array.toList_zipIdx, Array.toList_zipIdx]
        exact this
theorem places_run (w : World) : ∀ (fs : List Field) (l : List (Nat × Nat)), placesOf P fs = some l → (fs.mapM (fun f => do pure (f.offset, ← sizeOf f.type) : Field → Sem (Nat × Nat))).run P w = .ok l w
  | [], l, e => by simp only [placesOf, Option.some.injEq] at e; subst e; rfl
  | f :: fs, l, e => by
    simp only [placesOf] at e
    split at e
    · rename_i n l' hn hl
      simp only [Option.some.injEq] at e; subst e
      simp only [List.mapM_cons, Sem.run_bind, r_size hn, Result.andThen_ok, Sem.run_pure, places_run w fs l' hl]
    · cases e
theorem build_ok {t : TypeId} {ps ps' : List (Nat × Value)} {v : Value} (r : PR κ ps ps') (e : abuild P t ps = some v) : ∃ v', (Instr.build t ps'.toArray).run P w = .ok v' w ∧ VR κ v v' := by
  unfold abuild at e
  split at e
  · rename_i zero fields hz hd
    obtain ⟨i, zv, hi, hz', rfl, hcl, hlen⟩ := zero_inv hz
    split at e
    · rename_i places hpl
      obtain ⟨cs, hcs, rfl⟩ := Option.map_eq_some_iff.1 e
      obtain ⟨out', ho, hr⟩ := fill_ok (κ := κ) _ ps ps' _ _ cs r (LR.of_closed κ _ hcl) hcs
      refine ⟨.agg out', ?_, hr.agg⟩
      have hm := places_run w fields.toList places hpl
      simp only [Instr.build, Sem.run_bind, r_zero hi hz', Result.andThen_ok, run_underlying hd, Array.mapM_eq_mapM_toList, Sem.run_map, hm, Array.toArray_toList] at ho ⊢
      rw [ho]; rfl
    · cases e
  · rename_i zero n elem hz hd
    obtain ⟨i, zv, hi, hz', rfl, hcl, hlen⟩ := zero_inv hz
    split at e
    · rename_i size hs
      obtain ⟨cs, hcs, rfl⟩ := Option.map_eq_some_iff.1 e
      obtain ⟨out', ho, hr⟩ := fill_ok (κ := κ) _ ps ps' _ _ cs r (LR.of_closed κ _ hcl) hcs
      refine ⟨.agg out', ?_, hr.agg⟩
      simp only [Instr.build, Sem.run_bind, r_zero hi hz', Result.andThen_ok, run_underlying hd, r_size hs, Array.toArray_toList] at ho ⊢
      rw [ho]; rfl
    · cases e
  · cases e
theorem rep_closed {z : List Value} (hz : z.all closed = true) : ∀ n, (rep z n).all closed = true
  | 0 => rfl
  | n + 1 => by simp [rep, hz, rep_closed hz n]
theorem rep_nil : ∀ n, rep ([] : List Value) n = []
  | 0 => rfl
  | n + 1 => by simp [rep, rep_nil n]
theorem buildSlice_ok (H : HR P κ h.m w) {t : TypeId} {n : Nat} {ps ps' : List (Nat × Value)} {v : Value} {h' : Hp} (r : PR κ ps ps') (e : abuildSlice P t n ps h = some (v, h')) :
    h'.c = h.c + 1 ∧ (¬κ.dom h.c → ∃ v' w' κ', (Instr.buildSlice t n ps'.toArray).run P w = .ok v' w' ∧ HR P κ' h'.m w' ∧ Gone ro κ κ' h h' w w' ∧ VR κ' v v') := by
  unfold abuildSlice at e
  split at e
  · rename_i elem hd
    split at e
    · rename_i size z hs hz
      split at e
      · cases e
      · rename_i hbig
        split at e
        · rename_i cs hcs
          simp only [Option.some.injEq, Prod.mk.injEq] at e
          obtain ⟨rfl, rfl⟩ := e
          refine ⟨rfl, fun hf => ?_⟩
          obtain ⟨i, zv, hi, hz', rfl, hcl, hlen⟩ := zero_inv hz
          have hsz : i.size = size := by have : sz P elem = some i.size := by simp [sz, hi]
                                         rw [hs] at this; simpa using this.symm
          have hzs : zv.cells.size = size := by rw [← hsz, ← hlen]; simp
          obtain ⟨out', ho, hr⟩ := fill_ok (κ := κ) _ ps ps' _ _ cs r (LR.of_closed κ _ (by rw [List.toList_toArray]; exact rep_closed hcl n)) hcs
          rw [List.toList_toArray] at *
          obtain ⟨a, b⟩ := new_cells (ro := ro) (s := size) (c' := out') (w' := { w with heap := w.heap.push (.cells out' elem) }) H hf false (0, 0) hs
            (arr_same hr) (by have := hr.1; simp at this; simp; omega) (fun _ => rfl) rfl rfl rfl rfl
          refine ⟨.slice (some ⟨w.heap.size, 0, none⟩) n n, _, _, ?_, a, b, vr_slice (Nat.le_refl _)⟩
          have hrr : ∀ zz : Array Value, zz = (if n * size = 0 then #[] else zv.cells) → (Array.range (n * size)).map (zz[· % zz.size]!) = (rep zv.cells.toList n).toArray := by
            intro zz hzz
            by_cases h0 : n * size = 0
            · rw [hzz, if_pos h0, h0]
              have : rep zv.cells.toList n = [] := by
                rcases Nat.mul_eq_zero.1 h0 with q | q
                · rw [q]; rfl
                · have : zv.cells.toList = [] := List.eq_nil_of_length_eq_zero (by rw [Array.length_toList]; omega)
                  rw [this, rep_nil]
              rw [this]; simp
            · rw [hzz, if_neg h0, ← hzs]
              apply Array.ext'
              rw [rep_range]
          simp only [Instr.buildSlice, Sem.run_bind, run_underlying hd, Result.andThen_ok, r_size hs, hbig, if_false]
          by_cases h0 : n * size = 0
          · have := hrr #[] (by rw [if_pos h0])
            simp only [h0, if_true, Sem.run_bind, Sem.run_pure, Result.andThen_ok] at this ⊢
            simp only [this, ho, Sem.run_bind, newRow, run_newObj, Result.andThen_ok, Sem.run_pure]
          · have := hrr zv.cells (by rw [if_neg h0])
            simp only [h0, if_false, Sem.run_bind, Sem.run_pure, Result.andThen_ok, r_zero hi hz'] at this ⊢
            simp only [this, ho, Sem.run_bind, newRow, run_newObj, Result.andThen_ok, Sem.run_pure]
        · cases e
    · cases e
  · cases e
end
end Ex
end Go.Proofs.YtgbladpoglhleaaGreatDoor
