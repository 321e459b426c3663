/- The evaluator's operations beside the model's: copy, len, conversions; each operation. No condition. -/
import Derived.Test.YtgbladpoglhleaaGreatDoorRun9
namespace Go.Proofs.YtgbladpoglhleaaGreatDoor
namespace Ex
section
variable {P : Program} {ro : Nat} {κ : K} {h : Hp} {w : World}
theorem copy_ok (H : HR P κ h.m w) {ats : List TypeId} {ty : TypeId} {d d' x x' v : Value} {h' : Hp} (rd : VR κ d d') (rx : VR κ x x') (e : acopy P ro ats h d x = some (v, h')) :
    h'.c = h.c ∧ ∃ v' w', (Builtin.copy_ ats.toArray ty #[d', x']).run P w = .ok v' w' ∧ HR P κ h'.m w' ∧ Gone ro κ κ h h' w w' ∧ VR κ v v' := by
  unfold acopy at e
  split at e
  · rename_i dT hdT
    have e0 : ats.toArray[0]? = some dT := by simpa using hdT
    split at e
    · rename_i elem hu
      split at e
      · rename_i size b off dLen c sl hs hsl
        split at e
        · rename_i cells hcells
          obtain ⟨cells', rc, hrc⟩ := firsts_ok H rx hsl (Nat.min_le_left sl dLen) hcells
          cases rd with
          | slice _ _ _ _ off' cap' hd hsk =>
            have hrun1 : (Builtin.copy_ ats.toArray ty #[.slice (some ⟨κ.p b, off', none⟩) dLen cap', x']).run P w = ((storeCells ⟨κ.p b, off', none⟩ cells').run P w).andThen fun _ w' => .ok (goInt (Nat.min sl dLen)) w' := by
              simp only [Builtin.copy_, e0, List.getElem?_toArray, List.getElem?_cons_zero, List.getElem?_cons_succ, Sem.run_bind, run_underlying hu, Result.andThen_ok, rx.len hsl, r_size hs, hrc w rfl, Sem.run_pure]
            split at e
            · rename_i h0
              simp only [Option.some.injEq, Prod.mk.injEq] at e
              obtain ⟨rfl, rfl⟩ := e
              have : cells' = [] := List.eq_nil_of_length_eq_zero (by rw [lr_len rc, h0])
              subst this
              exact ⟨rfl, goInt (Nat.min sl dLen), w, hrun1, H, Gone.refl H, .int _ _⟩
            · rename_i h0
              split at e
              · rename_i h2 hst
                simp only [Option.some.injEq, Prod.mk.injEq] at e
                obtain ⟨rfl, rfl⟩ := e
                have hpos : 0 < Nat.min sl dLen := by
                  refine Nat.pos_of_ne_zero fun q => h0 ?_
                  rw [q] at hcells
                  cases rx with
                  | slice => simp [firsts] at hcells; subst hcells; rfl
                  | sliceNil => simp [firsts] at hcells; subst hcells; rfl
                  | string => simp [firsts] at hcells; subst hcells; rfl
                  | _ => simp [alen] at hsl
                have ho := hsk.off (by have := hsk.1; have := Nat.min_le_right sl dLen; simp only [Nat.min_def] at *; omega)
                subst ho
                obtain ⟨hcc, w', hr2, hH, hG⟩ := st_ok H rc hst
                exact ⟨hcc, goInt (Nat.min sl dLen), w', by rw [hrun1, hr2, Result.andThen_ok], hH, hG, .int _ _⟩
              · cases e
        · cases e
      · rename_i size sl hs hsl
        simp only [Option.some.injEq, Prod.mk.injEq] at e
        obtain ⟨rfl, rfl⟩ := e
        cases rd with
        | sliceNil =>
          refine ⟨rfl, goInt 0, w, ?_, H, Gone.refl H, .int _ _⟩
          have hm : Nat.min sl 0 = 0 := Nat.min_zero sl
          have hf : (Builtin.firstCells size 0 x').run P w = .ok #[] w := by
            cases rx with
            | slice => simp only [Builtin.firstCells, Nat.zero_mul]; rfl
            | sliceNil => rfl
            | string s => simp [Builtin.firstCells]
            | _ => simp [alen] at hsl
          simp only [Builtin.copy_, e0, List.getElem?_toArray, List.getElem?_cons_zero, List.getElem?_cons_succ, Sem.run_bind, run_underlying hu, Result.andThen_ok, rx.len hsl, r_size hs, hm, hf, Sem.run_pure]
          rfl
      · cases e
    · cases e
  · cases e
theorem lenB_ok (H : HR P κ h.m w) {t ty : TypeId} {x x' v : Value} (r : VR κ x x') (ats : Array TypeId) (ha : ats[0]? = some t) (e : alenB P t h x = some v) :
    ∃ v', (Builtin.len_ ats ty #[x']).run P w = .ok v' w ∧ VR κ v v' := by
  unfold alenB at e
  simp only [Option.bind_eq_bind] at e
  obtain ⟨d, hd, e2⟩ := Option.bind_eq_some_iff.1 e
  clear e
  have e := e2
  clear e2
  split at e
  · simp only [Option.some.injEq] at e; subst e
    cases r with
    | string s => exact ⟨goInt _, by simp [Builtin.len_, ha, run_underlying hd], .int _ _⟩
  · simp only [Option.some.injEq] at e; subst e
    exact ⟨goInt _, by simp [Builtin.len_, ha, run_underlying hd], .int _ _⟩
  · rename_i arr _
    obtain ⟨d2, hd2, e2⟩ := Option.bind_eq_some_iff.1 e
    split at e2
    · simp only [Option.some.injEq] at e2; subst e2
      exact ⟨goInt _, by simp [Builtin.len_, ha, run_underlying hd, run_underlying hd2], .int _ _⟩
    · cases e2
  · simp only [Option.some.injEq] at e; subst e
    cases r with
    | slice => exact ⟨goInt _, by simp [Builtin.len_, ha, run_underlying hd], .int _ _⟩
    | sliceNil => exact ⟨goInt _, by simp [Builtin.len_, ha, run_underlying hd], .int _ _⟩
  · simp only [Option.some.injEq] at e; subst e
    cases r with
    | mapNil => exact ⟨goInt _, by simp [Builtin.len_, ha, run_underlying hd], .int _ _⟩
  · split at e
    · rename_i es cl hob
      simp only [Option.some.injEq] at e; subst e
      cases r with
      | map _ hr =>
        obtain ⟨_, es', ho', he⟩ := map_obj H hob
        refine ⟨goInt es.length, ?_, .int _ _⟩
        have : es'.size = es.length := by have := he.1; simpa using this.symm
        simp [Builtin.len_, ha, run_underlying hd, r_getObj (P := P) ho' (by simp), this]
    · cases e
  · cases e
theorem toStr_run (w : World) : ∀ (l l' : List Value) (acc s : ByteArray), LR κ l l' →
    l.foldl (fun s c => match s, c with | some s, .int .u8 n => some (s.push (UInt8.ofNat n.toNat)) | _, _ => none) (some acc) = some s →
    (ForIn.forIn l' acc (fun c (s : ByteArray) => match c with
      | .int .u8 n => pure (ForInStep.yield (s.push (UInt8.ofNat n.toNat)))
      | _ => do
        stuck "bytesToString: byte expected"
        pure (ForInStep.yield s)) : Sem ByteArray).run P w = .ok s w
  | [], l', acc, s, r, e => by
    rw [r.nil_inv]
    simp only [List.foldl_nil, Option.some.injEq] at e; subst e
    simp
  | x :: xs, zs, acc, s, r, e => by
    obtain ⟨y, ys, rfl, h1, h2⟩ := r.cons_inv
    have none_fold : ∀ l : List Value, l.foldl (fun s c => match s, c with | some s, .int .u8 n => some (s.push (UInt8.ofNat n.toNat)) | _, _ => none) (none : Option ByteArray) = none := by
      intro l
      induction l with
      | nil => rfl
      | cons a l ih => simp only [List.foldl_cons]; exact ih
    cases h1 with
    | int k n =>
      cases k with
      | u8 =>
        simp only [List.foldl_cons] at e
        have ih := toStr_run w xs ys _ s h2 e
        simp only [List.forIn_cons, Sem.run_bind, Sem.run_pure, Result.andThen_ok]
        exact ih
      | _ => simp only [List.foldl_cons] at e; rw [none_fold] at e; cases e
    | _ => simp only [List.foldl_cons] at e; rw [none_fold] at e; cases e
theorem push_modify {α : Type} (a : Array α) (x : α) (f : α → α) : (a.push x).modify a.size f = a.push (f x) := by
  apply Array.ext (by simp)
  intro i h1 h2
  rw [Array.getElem_modify]
  by_cases hi : i = a.size
  · subst hi; simp
  · have : i < a.size := by simp at h2; omega
    simp [Array.getElem_push, this, Ne.symm hi]
theorem convert_ok (H : HR P κ h.m w) {src dst : TypeId} {x x' v : Value} {h' : Hp} (r : VR κ x x') (e : aconvert P src dst h x = some (v, h')) :
    h.c ≤ h'.c ∧ (Free κ h.c h'.c → ∃ v' w' κ', (convert src dst x').run P w = .ok v' w' ∧ HR P κ' h'.m w' ∧ Gone ro κ κ' h h' w w' ∧ VR κ' v v') := by
  unfold aconvert at e
  simp only [Option.bind_eq_bind] at e
  obtain ⟨d1, hd1, e2⟩ := Option.bind_eq_some_iff.1 e
  obtain ⟨d2, hd2, e3⟩ := Option.bind_eq_some_iff.1 e2
  clear e e2
  split at e3
  · simp only [Option.some.injEq, Prod.mk.injEq] at e3
    obtain ⟨rfl, rfl⟩ := e3
    cases r with
    | int k n => exact ⟨Nat.le_refl _, fun _ => ⟨_, w, κ, by simp [convert, run_underlying hd1, run_underlying hd2, Conv.intToInt], H, Gone.refl H, .int _ _⟩⟩
  · simp only [Option.some.injEq, Prod.mk.injEq] at e3
    obtain ⟨rfl, rfl⟩ := e3
    cases r with
    | string _ => exact ⟨Nat.le_refl _, fun _ => ⟨_, w, κ, by simp [convert, run_underlying hd1, run_underlying hd2], H, Gone.refl H, .string _⟩⟩
  · rename_i el s
    obtain ⟨d3, hd3, e4⟩ := Option.bind_eq_some_iff.1 e3
    split at e4
    · rename_i hs1
      simp only [Option.some.injEq, Prod.mk.injEq] at e4
      obtain ⟨rfl, rfl⟩ := e4
      cases r with
      | string _ =>
        refine ⟨by simp [Hp.new], fun hf => ?_⟩
        have hfree := hf h.c (Nat.le_refl _) (by simp [Hp.new])
        have hge := grownCap_ge w s.size 0 el
        have hds : s.data.size = s.size := rfl
        generalize hc' : ((s.data.map fun b => Value.int .u8 (b.toNat : Int)) ++ Array.replicate (grownCap w s.size 0 el - s.size) (.int .u8 0) : Array Value) = c'
        have hcs : c'.size = grownCap w s.size 0 el := by
          rw [← hc']
          simp only [Array.size_append, Array.size_map, Array.size_replicate, hds]; omega
        obtain ⟨a, b⟩ := new_cells (ro := ro) (κ := κ) (h := h) (s := 1) (t := el) (l := s.data.toList.map fun b => Value.int .u8 (b.toNat : Int)) (c' := c') (w' := { w.drew with heap := w.heap.push (.cells c' el (c'.size, c'.size + 1)) }) H hfree true (c'.size, c'.size + 1) hs1
          (fun i v hv => by
            refine ⟨v, ?_, (bytes_lr κ s.data.toList).2 i v v hv hv⟩
            rw [← hc', ← Array.getElem?_toList, Array.toList_append, List.getElem?_append_left (by have := (List.getElem?_eq_some_iff.1 hv).1; simpa using this), Array.toList_map]; exact hv) (by rw [hcs, List.length_map, Array.length_toList, hds]; exact hge) (fun q => by cases q) rfl rfl rfl rfl
        refine ⟨.slice (some ⟨w.heap.size, 0, none⟩) s.size c'.size, _, _, ?_, a, b, vr_sliceU (Nat.le_refl _) (by omega) (by omega)⟩
        have hq : Question.forced (.appendCap s.size 0 el) = false := rfl
        have hcc : (Question.appendCap s.size 0 el).cut (w.tape w.drawn (.appendCap s.size 0 el)) = grownCap w s.size 0 el := rfl
        simp only [convert, Sem.run_bind, run_underlying hd1, run_underlying hd2, run_underlying hd3, Result.andThen_ok, Conv.stringToBytes, run_choose, hq, Bool.false_eq_true, if_false, hcc, newRow, run_newObj, Sem.run_pure, markStringish, run_shape]
        rw [hc']
        have hsh : ({ heap := w.heap.push (.cells c' el), tape := w.tape, drawn := w.drawn + 1, os := w.os, output := w.output } : World).shape? w.heap.size = some (el, c'.size) := by simp [World.shape?]
        simp only [hsh, run_freeze, Result.andThen_ok, Sem.run_pure, World.freeze, Nat.one_ne_zero, if_false, push_modify, hcs]
        rfl
    · cases e4
  · obtain ⟨d3, hd3, e4⟩ := Option.bind_eq_some_iff.1 e3
    split at e4
    · simp only [Option.some.injEq, Prod.mk.injEq] at e4
      obtain ⟨rfl, rfl⟩ := e4
      cases r with
      | sliceNil => exact ⟨Nat.le_refl _, fun _ => ⟨.string .empty, w, κ, by simp [convert, run_underlying hd1, run_underlying hd2, run_underlying hd3, Conv.bytesToString], H, Gone.refl H, .string _⟩⟩
    · cases e4
  · rename_i el b off len c
    obtain ⟨d3, hd3, e4⟩ := Option.bind_eq_some_iff.1 e3
    split at e4
    · obtain ⟨l, hl, e5⟩ := Option.bind_eq_some_iff.1 e4
      obtain ⟨s, hs, e6⟩ := Option.bind_eq_some_iff.1 e5
      simp only [Option.some.injEq, Prod.mk.injEq] at e6
      obtain ⟨rfl, rfl⟩ := e6
      cases r with
      | slice _ _ _ _ off' cap' hd hsk =>
        refine ⟨Nat.le_refl _, fun _ => ⟨.string s, w, κ, ?_, H, Gone.refl H, .string _⟩⟩
        have hld : ∃ l', LR κ l l' ∧ (loadCells ⟨κ.p b, off', none⟩ len).run P w = .ok l'.toArray w := by
          split at hl
          · rename_i h0
            simp only [Option.some.injEq] at hl; subst hl; subst h0
            exact ⟨[], LR.nil κ, rfl⟩
          · rename_i h0
            have ho := hsk.off (by have := hsk.1; omega)
            subst ho
            exact r_ld H hl
        obtain ⟨l', hr, hrun⟩ := hld
        have := toStr_run (P := P) w l l' .empty s hr hs
        simp only [convert, Sem.run_bind, run_underlying hd1, run_underlying hd2, run_underlying hd3, Result.andThen_ok, Conv.bytesToString, hrun]
        rw [List.forIn_toArray]
        exact congrArg (fun q : Result ByteArray => q.andThen fun a w' => Sem.run P (pure (Value.string a)) w') this
    · cases e4
  · cases e3
theorem loadBytes_ok : ∀ (l l' : List Value) (a : Addr) (acc s : ByteArray), LR κ l l' → (∀ (j : Nat) v, l'[j]? = some v → w.cell? ⟨a.block, a.off + j, none⟩ = some v) → a.spot = none →
    l.foldl (fun s c => match s, c with | some s, .int .u8 n => some (s.push (UInt8.ofNat n.toNat)) | _, _ => none) (some acc) = some s → (loadBytes a acc l.length).run P w = .ok s w
  | [], l', a, acc, s, r, hc, hs, e => by simp only [List.foldl_nil, Option.some.injEq] at e; subst e; rfl
  | x :: xs, zs, a, acc, s, r, hc, hs, e => by
    obtain ⟨y, ys, rfl, h1, h2⟩ := r.cons_inv
    have none_fold : ∀ l : List Value, l.foldl (fun s c => match s, c with | some s, .int .u8 n => some (s.push (UInt8.ofNat n.toNat)) | _, _ => none) (none : Option ByteArray) = none := by
      intro l
      induction l with
      | nil => rfl
      | cons a l ih => simp only [List.foldl_cons]; exact ih
    obtain ⟨blk, off, spot⟩ := a
    simp only at hs hc; subst hs
    have hcell : w.cell? ⟨blk, off, none⟩ = some y := by simpa using hc 0 y rfl
    cases h1 with
    | int k n =>
      cases k with
      | u8 =>
        simp only [List.foldl_cons] at e
        have ih := loadBytes_ok xs ys ⟨blk, off + 1, none⟩ _ s h2 (fun j v hj => by
          have := hc (j + 1) v (by simpa using hj)
          simpa [Nat.add_assoc, Nat.add_comm 1 j] using this) rfl e
        simp only [List.length_cons, loadBytes, Sem.run_bind, run_load, hcell, Result.andThen_ok, addr_add]
        exact ih
      | _ => simp only [List.foldl_cons] at e; rw [none_fold] at e; cases e
    | _ => simp only [List.foldl_cons] at e; rw [none_fold] at e; cases e
theorem liesAt_one {e count off n d : Nat} (hs : P.cellsOf e = 1) (hd : 0 < P.depth) (hle : off + n ≤ count) : liesAt P (d + 1) e count off e n = true := by
  obtain ⟨d', hd'⟩ : ∃ d', P.depth = d' + 1 := ⟨P.depth - 1, by omega⟩
  have hsl : ∀ t, sameLayout P (d' + 1) t t = true := fun t => by simp [sameLayout]
  simp only [liesAt, hd', rowAt, hs, Nat.one_ne_zero, if_false, Nat.mod_one, Nat.div_one, hsl]
  simp [hle]
theorem unsafeString_ok (H : HR P κ h.m w) {ats : Array TypeId} {ty : TypeId} {p p' n n' v : Value} {h' : Hp} (rp : VR κ p p') (rn : VR κ n n') (e : aunsafeString P ro ats.toList h p n = some (v, h')) :
    ∃ v' w', (Builtin.unsafeString_ ats ty #[p', n']).run P w = .ok v' w' ∧ HR P κ h'.m w' ∧ Gone ro κ κ h h' w w' ∧ VR κ v v' := by
  unfold aunsafeString at e
  split at e
  · rename_i pt k hpt hk
    obtain ⟨kk, rfl⟩ := asI_inv rn hk
    split at e
    · rename_i el b off hd
      split at e
      · rename_i hrange
        split at e
        · rename_i c el2 fr hob
          split at e
          · rename_i hcond
            obtain ⟨rfl, hs1, hu8, hdep⟩ := hcond
            split at e
            · rename_i s h2 hs hu
              simp only [Option.some.injEq, Prod.mk.injEq] at e
              obtain ⟨rfl, rfl⟩ := e
              obtain ⟨l, hl, hstr⟩ := Option.bind_eq_some_iff.1 hs
              cases rp with
              | ptr _ _ hdb =>
                obtain ⟨_, hlen, l', hr, hc⟩ := ld_ok H hl
                obtain ⟨_, o', ho', hor⟩ := H.obj b _ hob
                cases hor with
                | cells _ _ _ c' fz hn hcl hss hcc hf =>
                  have hcells : P.cellsOf el2 = 1 := by
                    obtain ⟨i, hi, his⟩ := sz_info hs1
                    simp [Program.cellsOf, hi, his]
                  have hfit : off + k.toNat ≤ c'.size := by
                    unfold ldAt at hl
                    rw [hob] at hl
                    simp only at hl
                    by_cases hq : ((c.drop off).take k.toNat).length = k.toNat
                    · simp at hq; omega
                    · rw [beqF hq] at hl; cases hl
                  have hpos : k.toNat ≠ 0 := by omega
                  have hb := loadBytes_ok (P := P) (w := w) l l' ⟨κ.p b, off, none⟩ .empty s hr hc rfl hstr
                  rw [hlen] at hb
                  obtain ⟨hH, hG⟩ := go_killw (w' := w.freeze ⟨κ.p b, off, none⟩ k.toNat) H hob hu (by simp [World.freeze, hpos]) (fun x hx => by simp only [World.freeze, hpos, if_false]; rw [Array.getElem?_modify, if_neg (Ne.symm hx)]) (by simp [World.freeze, hpos]) (by simp [World.freeze, hpos]) (by simp [World.freeze, hpos])
                  refine ⟨.string s, _, ?_, hH, hG, .string s⟩
                  have hsh : w.shape? (κ.p b) = some (el2, c'.size) := by simp [World.shape?, ho']
                  have hpt' : ats[0]? = some pt := by rw [← Array.getElem?_toList]; exact hpt
                  obtain ⟨d', hd'⟩ : ∃ d', P.depth = d' + 1 := ⟨P.depth - 1, by omega⟩
                  have hla := liesAt_one (P := P) (e := el2) (count := c'.size) (off := off) (n := k.toNat) (d := d') hcells hdep hfit
                  have hva : (variablesAt ⟨κ.p b, off, none⟩ el2 k.toNat).run P w = .ok true w := by
                    simp only [variablesAt, Sem.run_bind, run_program, Result.andThen_ok, run_shape, hsh, Sem.run_pure, hcells, Nat.div_one]
                    rw [hd', hla]
                  have n1 : ¬k < 0 := by omega
                  have n2 : ¬k > IntKind.i64.max := by simp only [IntKind.max, IntKind.signed, IntKind.bits]; simp; omega
                  have n3 : ¬k = 0 := by omega
                  have hdef : Builtin.unsafeString_ ats ty #[.pointer (some ⟨κ.p b, off, none⟩), .int kk k] = (do
                      let n ← asInt (.int kk k)
                      let some pt := ats[0]? | stuck "unsafe.String: no argument types"
                      if n < 0 then runtimePanic (.error "unsafe.String: len out of range")
                      if n > IntKind.i64.max then unsupported (.unsafePointer "String: a length above the largest int")
                      if n = 0 then pure (.string .empty)
                      else if ← variablesAt ⟨κ.p b, off, none⟩ (← elemOf pt) n.toNat then do
                        let s ← loadBytes ⟨κ.p b, off, none⟩ .empty n.toNat
                        freeze ⟨κ.p b, off, none⟩ n.toNat
                        pure (.string s)
                      else unsupported (.unsafePointer "String: not so many bytes at ptr")) := rfl
                  rw [hdef]
                  simp only [Sem.run_bind, asInt, asIntOf, Sem.run_pure, Result.andThen_ok, hpt', n1, n2, n3, if_false, elemOf, run_underlying hd, hva, if_true, hb, run_freeze]
            · cases e
          · cases e
        · cases e
      · cases e
    · cases e
  · cases e
end
end Ex
end Go.Proofs.YtgbladpoglhleaaGreatDoor
