/- The evaluator's operations beside the model's: those that read, lay and turn blocks of cells. No condition. -/
import Derived.Test.YtgbladpoglhleaaGreatDoorRun2
import Derived.Laws.Entries
import Derived.Laws.CopyRow
import Derived.Laws.AppendOwn
import Derived.IntWalk
namespace Go.Proofs.YtgbladpoglhleaaGreatDoor
namespace Ex
section
variable {P : Program} {ro : Nat} {κ : K} {h : Hp} {w : World}
theorem sz_info {t : TypeId} {n : Nat} (e : sz P t = some n) : ∃ i, P.info? t = some i ∧ i.size = n := by
  unfold sz at e
  cases hi : P.info? t with
  | none => rw [hi] at e; cases e
  | some i => rw [hi] at e; simp only [Option.map_some, Option.some.injEq] at e; exact ⟨i, rfl, e⟩
theorem r_info {t : TypeId} {i : TypeInfo} (e : P.info? t = some i) (w : World) : (typeInfo t).run P w = .ok i w := by simp [typeInfo, e]
theorem r_size {t : TypeId} {n : Nat} (e : sz P t = some n) (w : World) : (sizeOf t).run P w = .ok n w := by
  obtain ⟨i, hi, rfl⟩ := sz_info e
  simp [sizeOf, r_info hi]
theorem r_agg {t : TypeId} {b : Bool} (e : aggT P t = some b) (w : World) : (isAgg t).run P w = .ok b w := by
  unfold aggT at e
  cases hu : P.underlying t with
  | none => rw [hu] at e; cases e
  | some d =>
    rw [hu] at e
    unfold isAgg
    simp only [Sem.run_bind, run_underlying hu, Result.andThen_ok]
    cases d <;> simp at e <;> subst e <;> rfl
theorem zero_inv {t : TypeId} {z : List Value} (e : zeroCells? P t = some z) : ∃ i zv, P.info? t = some i ∧ i.zero = some zv ∧ zv.cells.toList = z ∧ z.all closed = true ∧ z.length = i.size := by
  unfold zeroCells? at e
  simp only [Option.bind_eq_bind] at e
  obtain ⟨i, hi, e⟩ := Option.bind_eq_some_iff.1 e
  obtain ⟨zv, hz, e⟩ := Option.bind_eq_some_iff.1 e
  split at e
  · rename_i hc
    simp only [Option.some.injEq] at e
    simp only [Bool.and_eq_true, decide_eq_true_eq] at hc
    subst e
    exact ⟨i, zv, hi, hz, rfl, hc.1, hc.2⟩
  · cases e
theorem r_zero {t : TypeId} {i : TypeInfo} {z : Value} (hi : P.info? t = some i) (hz : i.zero = some z) (w : World) : (zeroValue t).run P w = .ok z w := by
  simp [zeroValue, r_info hi, hz]
theorem addr_add (b off n : Nat) : (⟨b, off, none⟩ : Addr).add n = ⟨b, off + n, none⟩ := by unfold Addr.add; split <;> simp_all
theorem VR.scalar {v v' : Value} (r : VR κ v v') : v'.oneCell' = scalar v := by cases r <;> rfl
theorem VR.cells {v v' : Value} (r : VR κ v v') : LR κ v.cells.toList v'.cells.toList := by
  have one : ∀ {v v' : Value}, VR κ v v' → LR κ [v] [v'] := fun r => LR.cons r (LR.nil κ)
  cases r with
  | agg xs xs' hx hh => exact LR.of_arr hx hh
  | bool b => exact one (.bool b)
  | int k n => exact one (.int k n)
  | string s => exact one (.string s)
  | nilFunc => exact one .nilFunc
  | nilIface => exact one .nilIface
  | ptrNil => exact one .ptrNil
  | mapNil => exact one .mapNil
  | sliceNil => exact one .sliceNil
  | ptr b off h => exact one (.ptr b off h)
  | slice b off len c off' cap' h hs => exact one (.slice b off len c off' cap' h hs)
  | map r h => exact one (.map r h)
  | yield l h => exact one (.yield l h)
  | func f xs ys xs' ys' a b c d => exact one (.func f xs ys xs' ys' a b c d)
  | iface t v v' h => exact one (.iface t v v' h)
  | tuple xs xs' hx hh => exact one (.tuple xs xs' hx hh)
theorem LR.scalars {vs vs' : List Value} (r : LR κ vs vs') (hs : vs.all scalar = true) : ∀ v ∈ vs', v.oneCell' = true := by
  induction vs generalizing vs' with
  | nil => rw [r.nil_inv]; simp
  | cons x xs ih =>
    obtain ⟨y, ys, rfl, h1, h2⟩ := r.cons_inv
    simp only [List.all_cons, Bool.and_eq_true] at hs
    intro v hv
    rcases List.mem_cons.1 hv with rfl | hv
    · rw [h1.scalar]; exact hs.1
    · exact ih h2 hs.2 v hv

/-! ### Reading -/
theorem ld_ok (H : HR P κ h.m w) {b off n : Nat} {l : List Value} (e : ldAt h b off n = some l) :
    κ.dom b ∧ l.length = n ∧ ∃ l', LR κ l l' ∧ ∀ (j : Nat) v, l'[j]? = some v → w.cell? ⟨κ.p b, off + j, none⟩ = some v := by
  unfold ldAt at e
  cases hb : h.m.get b with
  | none => rw [hb] at e; cases e
  | some o =>
    rw [hb] at e
    cases o with
    | cells c t fr =>
      simp only at e
      by_cases hn : ((c.drop off).take n).length = n
      · rw [beqT hn] at e
        simp only [cond_true, Option.some.injEq] at e
        obtain ⟨hd, o', ho', hr⟩ := H.obj b _ hb
        cases hr with
        | cells _ _ _ c' fz hn' hl hs hc hf =>
          subst e
          refine ⟨hd, hn, (c'.toList.drop off).take n, ⟨?_, fun i v v' a b => ?_⟩, fun j v hj => ?_⟩
          · rw [hn]
            simp only [List.length_take, List.length_drop, Array.length_toList] at hn ⊢
            omega
          · rw [List.getElem?_take] at a b
            split at a
            · rename_i hi
              rw [if_pos hi] at b
              rw [List.getElem?_drop] at a b
              obtain ⟨v2, hv2, r⟩ := hc _ _ a
              rw [Array.getElem?_toList, hv2] at b
              cases b; exact r
            · cases a
          · rw [List.getElem?_take] at hj
            split at hj
            · rw [List.getElem?_drop, Array.getElem?_toList] at hj
              simp [World.cell?, ho', hj]
            · cases hj
      · rw [beqF hn] at e; cases e
    | _ => cases e
theorem r_ld (H : HR P κ h.m w) {b off n : Nat} {l : List Value} (e : ldAt h b off n = some l) : ∃ l', LR κ l l' ∧ (loadCells ⟨κ.p b, off, none⟩ n).run P w = .ok l'.toArray w := by
  obtain ⟨_, hn, l', hr, hc⟩ := ld_ok H e
  refine ⟨l', hr, ?_⟩
  rw [← hn, hr.1]
  exact run_loadCells_list w _ l' fun j v hj => by rw [addr_add]; exact hc j v hj
theorem aload_ok (H : HR P κ h.m w) {t : TypeId} {a a' v : Value} (r : VR κ a a') (e : aload P t h a = some v) : ∃ v', (Instr.loadAt t a').run P w = .ok v' w ∧ VR κ v v' := by
  unfold aload at e
  cases r with
  | ptr b off hd =>
    simp only [Option.bind_eq_bind] at e
    obtain ⟨g, hg, e⟩ := Option.bind_eq_some_iff.1 e
    cases g with
    | true =>
      simp only [if_true] at e
      obtain ⟨n, hn, e⟩ := Option.bind_eq_some_iff.1 e
      obtain ⟨l, hl, e⟩ := Option.bind_eq_some_iff.1 e
      simp only [Option.some.injEq] at e; subst e
      obtain ⟨l', hr, hrun⟩ := r_ld H hl
      refine ⟨.agg l'.toArray, ?_, hr.agg⟩
      simp [Instr.loadAt, Instr.sureAddr, loadVar, r_agg hg, r_size hn, hrun]
    | false =>
      simp only [Bool.false_eq_true, if_false] at e
      obtain ⟨l, hl, e⟩ := Option.bind_eq_some_iff.1 e
      obtain ⟨_, hn, l', hr, hc⟩ := ld_ok H hl
      match l, hn, e, hr with
      | [x], _, e, hr =>
        simp only [Option.some.injEq] at e; subst e
        obtain ⟨y, ys, rfl, h1, h2⟩ := hr.cons_inv
        refine ⟨y, ?_, h1⟩
        have := hc 0 y rfl
        simp only [Nat.add_zero] at this
        simp [Instr.loadAt, Instr.sureAddr, loadVar, r_agg hg, this]
  | _ => simp at e

/-! ### Writing -/
theorem st_ok (H : HR P κ h.m w) {b off : Nat} {vs vs' : List Value} {h' : Hp} (r : LR κ vs vs') (e : stAt ro h b off vs = some h') :
    h'.c = h.c ∧ ∃ w', (storeCells ⟨κ.p b, off, none⟩ vs').run P w = .ok () w' ∧ HR P κ h'.m w' ∧ Gone ro κ κ h h' w w' := by
  unfold stAt at e
  cases hb : h.m.get b with
  | none => rw [hb] at e; cases e
  | some o =>
    rw [hb] at e
    cases o with
    | cells c t fr =>
      cases fr with
      | true => cases e
      | false =>
        simp only at e
        by_cases hc : (Nat.ble (off + vs.length) c.length && vs.all scalar) = true
        · rw [hc] at e
          simp only [cond_true] at e
          simp only [Bool.and_eq_true] at hc
          have hle : off + vs.length ≤ c.length := Nat.le_of_ble_eq_true hc.1
          obtain ⟨hd, o', ho', hr⟩ := H.obj b _ hb
          have hupd := Hp.upd_inv e
          cases hr with
          | cells _ _ _ c' fz hn' hl hs hcc hf =>
            have hfz := hf rfl
            subst hfz
            have hlen := r.1
            have hrun := run_storeCells_at P (κ.p b) off t vs' 0 c' w ho' (by simp; omega) (r.scalars hc.2)
            simp only [Nat.add_zero] at hrun
            have hlt : κ.p b < w.heap.size := (Array.getElem?_eq_some_iff.1 ho').1
            refine ⟨by rw [hupd.2], _, hrun, ?_⟩
            have hnew : (w.setRow (κ.p b) (c'.toList.take off ++ vs' ++ c'.toList.drop (off + vs'.length)).toArray).heap[κ.p b]? = some (.cells (c'.toList.take off ++ vs' ++ c'.toList.drop (off + vs'.length)).toArray t (0, 0)) :=
              setRow_heap w (κ.p b) c' _ t (0, 0) ho'
            refine go_upd H hb e (by simp [World.setRow]) hnew (fun k hk => ?_) rfl rfl rfl ?_
            · simp only [World.setRow]
              rw [Array.getElem?_modify, if_neg (Ne.symm hk)]
            · refine .cells _ _ _ _ _ ?_ ?_ hs (fun i v hv => ?_) (fun _ => rfl)
              · rw [← hn']; simp; omega
              · simp; omega
              · have hlen' : (c.take off).length = off := by simp; omega
                have hlen2 : (c'.toList.take off).length = off := by simp; omega
                simp only [List.append_assoc] at hv
                by_cases h1 : i < off
                · rw [List.getElem?_append_left (by omega), List.getElem?_take, if_pos h1] at hv
                  obtain ⟨v', a, b⟩ := hcc i v hv
                  refine ⟨v', ?_, b⟩
                  simp only [List.append_assoc, List.getElem?_toArray]
                  rw [List.getElem?_append_left (by omega), List.getElem?_take, if_pos h1, Array.getElem?_toList]; exact a
                · rw [List.getElem?_append_right (by omega), hlen'] at hv
                  by_cases h2 : i - off < vs.length
                  · rw [List.getElem?_append_left h2] at hv
                    obtain ⟨v', a, b⟩ := r.get hv
                    refine ⟨v', ?_, b⟩
                    simp only [List.append_assoc, List.getElem?_toArray]
                    rw [List.getElem?_append_right (by omega), hlen2, List.getElem?_append_left (by omega)]; exact a
                  · rw [List.getElem?_append_right (by omega), List.getElem?_drop] at hv
                    obtain ⟨v', a, b⟩ := hcc _ v hv
                    refine ⟨v', ?_, b⟩
                    simp only [List.append_assoc, List.getElem?_toArray]
                    rw [List.getElem?_append_right (by omega), hlen2, List.getElem?_append_right (by omega), List.getElem?_drop, Array.getElem?_toList, ← hlen]; exact a
        · have : (Nat.ble (off + vs.length) c.length && vs.all scalar) = false := by simpa using hc
          rw [this] at e; cases e
    | _ => cases e
theorem astore_ok (H : HR P κ h.m w) {t : TypeId} {a a' v v' : Value} {h' : Hp} (ra : VR κ a a') (rv : VR κ v v') (e : astore P ro t h a v = some h') :
    h'.c = h.c ∧ ∃ w', (Instr.storeAt t a' v').run P w = .ok () w' ∧ HR P κ h'.m w' ∧ Gone ro κ κ h h' w w' := by
  unfold astore at e
  cases ra with
  | ptr b off hd =>
    simp only [Option.bind_eq_bind] at e
    obtain ⟨n, hn, e⟩ := Option.bind_eq_some_iff.1 e
    have rc := rv.cells
    have hsz : v'.cells.size = v.cells.size := by simpa using rc.1.symm
    split at e
    · rename_i hl
      have hl' : v'.cells.size = n := by rw [hsz]; simpa using hl
      split at e
      · rename_i h0
        simp only [Option.some.injEq] at e; subst e
        have hnil : v'.cells.toList = [] := List.eq_nil_of_length_eq_zero (by simpa [h0] using hl')
        refine ⟨rfl, w, ?_, H, Gone.refl H⟩
        simp only [Instr.storeAt, Instr.sureAddr, storeVar, Sem.run_bind, Sem.run_pure, Result.andThen_ok, r_size hn, hl', ne_eq, not_true_eq_false, if_false, hnil, storeCells]
      · obtain ⟨hc, w', hrun, hH, hG⟩ := st_ok H rc e
        refine ⟨hc, w', ?_, hH, hG⟩
        simp only [Instr.storeAt, Instr.sureAddr, storeVar, Sem.run_bind, Sem.run_pure, Result.andThen_ok, r_size hn, hl', ne_eq, not_true_eq_false, if_false, hrun]
    · cases e
  | _ => simp at e

/-! ### New blocks -/
theorem new_cells (H : HR P κ h.m w) (hf : ¬κ.dom h.c) {l : List Value} {c' : Array Value} {t : TypeId} {s : Nat} {w' : World} (fr : Bool) (fz : Nat × Nat) (hs : sz P t = some s)
    (hl : ∀ (i : Nat) v, l[i]? = some v → ∃ v', c'[i]? = some v' ∧ VR κ v v') (hlen : l.length ≤ c'.size) (hz : fr = false → fz = (0, 0))
    (hw : w'.heap = w.heap.push (.cells c' t fz)) (h1 : w'.os = w.os) (h2 : w'.tape = w.tape) (h3 : w'.output = w.output) :
    HR P (κ.add h.c w.heap.size c'.size s) (h.new (.cells l t fr)).m w' ∧ Gone ro κ (κ.add h.c w.heap.size c'.size s) h (h.new (.cells l t fr)) w w' := by
  have hx := Ext.add w.heap.size c'.size s hf
  refine go_new H hf hw h1 h2 h3 (.cells _ _ _ _ _ ?_ hlen ?_ (fun i v hv => let ⟨v', a, b⟩ := hl i v hv; ⟨v', a, b.ext hx⟩) hz)
  · simp [K.add]
  · intro s2 q; rw [hs] at q; simp [K.add]; simpa using q.symm
theorem vr_new {n s : Nat} : VR (κ.add h.c w.heap.size n s) (ptr h.c 0) (.pointer (some ⟨w.heap.size, 0, none⟩)) := by
  have := VR.ptr (κ := κ.add h.c w.heap.size n s) h.c 0 (.inr rfl)
  simp only [K.add, if_true] at this
  exact this
theorem vr_slice {n s len cap : Nat} (hl : len ≤ cap) : VR (κ.add h.c w.heap.size n s) (.slice (some ⟨h.c, 0, none⟩) len (2 * cap)) (.slice (some ⟨w.heap.size, 0, none⟩) len cap) := by
  have := VR.slice (κ := κ.add h.c w.heap.size n s) h.c 0 len (2 * cap) 0 cap (.inr rfl) ⟨by omega, .inl ⟨by omega, by omega, rfl⟩⟩
  simp only [K.add, if_true] at this
  exact this
theorem vr_sliceU {n s len cap cap' : Nat} (hl : len ≤ cap) (hc : cap ≤ cap') (hb : cap' * s ≤ n) :
    VR (κ.add h.c w.heap.size n s) (.slice (some ⟨h.c, 0, none⟩) len (2 * cap + 1)) (.slice (some ⟨w.heap.size, 0, none⟩) len cap') := by
  have := VR.slice (κ := κ.add h.c w.heap.size n s) h.c 0 len (2 * cap + 1) 0 cap' (.inr rfl) ⟨by omega, .inr ⟨by omega, by omega, fun _ => rfl, by simp [K.add]; omega⟩⟩
  simp only [K.add, if_true] at this
  exact this
theorem arr_same {l : List Value} {c' : Array Value} (r : LR κ l c'.toList) : ∀ (i : Nat) v, l[i]? = some v → ∃ v', c'[i]? = some v' ∧ VR κ v v' := fun i v hv => by
  obtain ⟨v', a, b⟩ := r.get hv
  exact ⟨v', by rw [← Array.getElem?_toList]; exact a, b⟩
theorem alloc_ok (H : HR P κ h.m w) (hf : ¬κ.dom h.c) {t : TypeId} {z : List Value} (e : zeroCells? P t = some z) :
    ∃ v' w' κ', (Instr.alloc t true (.tuple #[])).run P w = .ok v' w' ∧ HR P κ' (h.new (.cells z t false)).m w' ∧ Gone ro κ κ' h (h.new (.cells z t false)) w w' ∧ VR κ' (ptr h.c 0) v' := by
  obtain ⟨i, zv, hi, hz, rfl, hcl, hlen⟩ := zero_inv e
  obtain ⟨a, b⟩ := new_cells (ro := ro) (s := i.size) (w' := { w with heap := w.heap.push (.cells zv.cells t) }) H hf false (0, 0) (by simp [sz, hi])
    (arr_same (LR.of_closed κ _ hcl)) (by simp) (fun _ => rfl) rfl rfl rfl rfl
  exact ⟨.pointer (some ⟨w.heap.size, 0, none⟩), _, _, by simp [Instr.alloc, r_zero hi hz, newVar, newRow], a, b, vr_new⟩
theorem box_ok (H : HR P κ h.m w) (hf : ¬κ.dom h.c) {t : TypeId} {s : Nat} {v v' : Value} (r : VR κ v v') (e : sz P t = some s) :
    ∃ u' w' κ', (Instr.box t v').run P w = .ok u' w' ∧ HR P κ' (h.new (.cells v.cells.toList t false)).m w' ∧ Gone ro κ κ' h (h.new (.cells v.cells.toList t false)) w w' ∧ VR κ' (ptr h.c 0) u' := by
  obtain ⟨a, b⟩ := new_cells (ro := ro) (s := s) (w' := { w with heap := w.heap.push (.cells v'.cells t) }) H hf false (0, 0) e (arr_same r.cells) (by have := r.cells.1; simp at this; simp; omega) (fun _ => rfl) rfl rfl rfl rfl
  exact ⟨.pointer (some ⟨w.heap.size, 0, none⟩), _, _, by simp [Instr.box, newVar, newRow], a, b, vr_new⟩
theorem rep_range (z : Array Value) : ∀ n : Nat, ((Array.range (n * z.size)).map (z[· % z.size]!)).toList = rep z.toList n := by
  intro n
  induction n with
  | zero => simp [rep]
  | succ n ih =>
    simp only [Array.toList_map, Array.toList_range, rep] at ih ⊢
    rw [Nat.succ_mul, Nat.add_comm, List.range_add, List.map_append, List.map_map, ← ih]
    congr 1
    · apply List.ext_getElem (by simp)
      intro i h1 h2
      have hi : i < z.size := by simpa using h1
      simp [Nat.mod_eq_of_lt hi, hi]
    · apply List.map_congr_left
      intro i _
      simp
theorem asI_inv {v v' : Value} {i : Int} (r : VR κ v v') (e : asI v = some i) : ∃ k, v' = .int k i := by
  cases r with
  | int k n => simp only [asI, Option.some.injEq] at e; subst e; exact ⟨k, rfl⟩
  | _ => simp [asI] at e
theorem makeSlice_ok (H : HR P κ h.m w) {t : TypeId} {l l' c c' v : Value} {h' : Hp} (rl : VR κ l l') (rc : VR κ c c') (e : amakeSlice P t h l c = some (v, h')) :
    h'.c = h.c + 1 ∧ (¬κ.dom h.c → ∃ v' w' κ', (Instr.makeSlice t l' c').run P w = .ok v' w' ∧ HR P κ' h'.m w' ∧ Gone ro κ κ' h h' w w' ∧ VR κ' v v') := by
  unfold amakeSlice at e
  simp only [Option.bind_eq_bind] at e
  obtain ⟨d, hd, e⟩ := Option.bind_eq_some_iff.1 e
  cases d with
  | slice elem =>
    simp only at e
    obtain ⟨li, hli, e⟩ := Option.bind_eq_some_iff.1 e
    obtain ⟨ci, hci, e⟩ := Option.bind_eq_some_iff.1 e
    obtain ⟨i, hi, e⟩ := Option.bind_eq_some_iff.1 e
    obtain ⟨z, hz, e⟩ := Option.bind_eq_some_iff.1 e
    split at e
    · rename_i hb
      simp only [Option.some.injEq, Prod.mk.injEq] at e
      obtain ⟨rfl, rfl⟩ := e
      refine ⟨rfl, fun hf => ?_⟩
      obtain ⟨i', zv, hi', hz', hzl, hcl, hlen⟩ := zero_inv hz
      rw [hi] at hi'; cases hi'
      obtain ⟨kl, rfl⟩ := asI_inv rl hli
      obtain ⟨kc, rfl⟩ := asI_inv rc hci
      obtain ⟨h0, hlc, hc48, hby⟩ := hb
      have w1 : IntKind.i64.wrap li = li := IntWalk.i64_in _ (by omega)
      have w2 : IntKind.i64.wrap ci = ci := IntWalk.i64_in _ (by omega)
      have hzs : zv.cells.size = i.size := by rw [← hlen, ← hzl]; simp
      have hn : ¬ (i.bytes : Int) * ci > 2 ^ 48 := by omega
      have hcells : ∃ c' : Array Value, c'.toList = rep z ci.toNat ∧
          (Array.range (ci.toNat * i.size)).map ((if ci.toNat * i.size = 0 then #[] else zv.cells)[· % (if ci.toNat * i.size = 0 then #[] else zv.cells).size]!) = c' := by
        by_cases hz0 : ci.toNat * i.size = 0
        · refine ⟨#[], ?_, by simp [hz0]⟩
          have : rep z ci.toNat = [] := by
            rcases Nat.mul_eq_zero.1 hz0 with q | q
            · rw [q]; rfl
            · have : z = [] := List.eq_nil_of_length_eq_zero (by omega)
              subst this
              have : ∀ k, rep ([] : List Value) k = [] := fun k => by induction k with | zero => rfl | succ k ih => simp [rep, ih]
              exact this _
          rw [this]
        · refine ⟨_, ?_, rfl⟩
          rw [if_neg hz0, ← hzs, rep_range, hzl]
      obtain ⟨cc, hcc, hmap⟩ := hcells
      obtain ⟨a, b⟩ := new_cells (ro := ro) (s := i.size) (c' := cc) (w' := { w with heap := w.heap.push (.cells cc elem) }) H hf false (0, 0) (by simp [sz, hi])
        (arr_same (by
          rw [hcc]
          have hall : ∀ k, (rep z k).all closed = true := fun k => by induction k with | zero => rfl | succ k ih => simp [rep, ih, hcl]
          exact LR.of_closed κ _ (hall _))) (by rw [← Array.length_toList, hcc]; exact Nat.le_refl _) (fun _ => rfl) rfl rfl rfl rfl
      refine ⟨.slice (some ⟨w.heap.size, 0, none⟩) li.toNat ci.toNat, _, _, ?_, a, b, vr_slice (by omega)⟩
      have e1 : (decide (ci < 0) || decide ((i.bytes : Int) * ci > 2 ^ 48)) = false := by
        simp only [Bool.or_eq_false_iff, decide_eq_false_iff_not]; exact ⟨by omega, hn⟩
      have e2 : decide (li < 0) = false := by simp; omega
      have e3 : decide (li > ci) = false := by simp; omega
      have hs : sz P elem = some i.size := by simp [sz, hi]
      simp only [Instr.makeSlice, Sem.run_bind, run_underlying hd, Result.andThen_ok, asInt, asIntOf, Sem.run_pure, r_info hi, w1, w2, e1, e2, e3, Bool.or_false, Bool.false_eq_true, if_false, run_askRoom, r_size hs]
      by_cases hz0 : ci.toNat * i.size = 0
      · simp only [hz0, if_true] at hmap ⊢
        simp only [Sem.run_bind, Sem.run_pure, Result.andThen_ok, newRow, run_newObj, hmap]
      · simp only [hz0, if_false] at hmap ⊢
        simp only [Sem.run_bind, Sem.run_pure, Result.andThen_ok, newRow, run_newObj, r_zero hi hz', hmap]
    · cases e
  | _ => simp at e
end
end Ex
end Go.Proofs.YtgbladpoglhleaaGreatDoor
