/- The evaluator's operations beside the model's: append, copy, len, conversions. No condition. -/
import Derived.Test.YtgbladpoglhleaaGreatDoorRun8
namespace Go.Proofs.YtgbladpoglhleaaGreatDoor
namespace Ex
section
variable {P : Program} {ro : Nat} {κ : K} {h : Hp} {w : World}
theorem VR.len {x x' : Value} {n : Nat} (r : VR κ x x') (e : alen x = some n) (w : World) : (Builtin.lenOf x').run P w = .ok n w := by
  cases r <;> simp [alen] at e <;> subst e <;> rfl
theorem bytes_lr (κ : K) (l : List UInt8) : LR κ (l.map fun b => Value.int .u8 b.toNat) (l.map fun b => Value.int .u8 b.toNat) :=
  ⟨rfl, fun i v v' a b => by rw [a] at b; cases b; rw [List.getElem?_map] at a; cases hb : l[i]? with | none => rw [hb] at a; cases a | some q => rw [hb] at a; simp at a; subst a; exact .int _ _⟩
theorem SlOk.off {b off len c off' cap' : Nat} (h : SlOk κ b off len c off' cap') (hp : 0 < c / 2) : off' = off := h.2.elim (fun a => a.2.2) (fun a => a.2.2.1 hp)
theorem SlOk.cap {b off len c off' cap' : Nat} (h : SlOk κ b off len c off' cap') : c / 2 ≤ cap' := h.2.elim (fun a => by omega) (fun a => a.2.1)
/-- The first n places of a slice or a string. -/
theorem firsts_ok (H : HR P κ h.m w) {x x' : Value} {size n len : Nat} {l : List Value} (r : VR κ x x') (hl : alen x = some len) (hn : n ≤ len) (e : firsts h size n x = some l) :
    ∃ l', LR κ l l' ∧ (∀ w2 : World, w2.heap = w.heap → (Builtin.firstCells size n x').run P w2 = .ok l'.toArray w2) := by
  cases r with
  | slice b off ln c off' cap' hd hs =>
    simp only [alen, Option.some.injEq] at hl; subst hl
    simp only [firsts] at e
    split at e
    · rename_i h0
      simp only [Option.some.injEq] at e; subst e
      refine ⟨[], LR.nil κ, fun w2 _ => ?_⟩
      simp only [Builtin.firstCells, h0]; rfl
    · rename_i h0
      have hpos : 0 < n := Nat.pos_of_ne_zero fun q => h0 (by rw [q, Nat.zero_mul])
      have ho := hs.off (by have := hs.1; omega)
      subst ho
      obtain ⟨hdb, hlen, l', hr, hc⟩ := ld_ok H e
      refine ⟨l', hr, fun w2 hw2 => ?_⟩
      simp only [Builtin.firstCells]
      rw [← hlen, hr.1]
      exact run_loadCells_list w2 _ l' fun j v hj => by
        rw [addr_add]
        have := hc j v hj
        simp only [World.cell?, hw2] at this ⊢
        exact this
  | sliceNil =>
    simp only [firsts] at e
    split at e
    · simp only [Option.some.injEq] at e; subst e
      exact ⟨[], LR.nil κ, fun w2 _ => rfl⟩
    · cases e
  | string s =>
    simp only [firsts, Option.some.injEq] at e; subst e
    refine ⟨_, bytes_lr κ _, fun w2 _ => ?_⟩
    have : ((s.extract 0 n).data.map fun b => Value.int .u8 (b.toNat : Int)) = ((s.data.toList.take n).map fun b => Value.int .u8 (b.toNat : Int)).toArray := by
      apply Array.ext'
      simp [ByteArray.data_extract, List.extract_eq_take_drop]
    simp only [Builtin.firstCells, Sem.run_pure, this]
  | _ => simp [alen] at hl
theorem nextcap_le {need old : Nat} (hlt : old < need) : Builtin.nextslicecap need old ≤ 2 * need + 768 := by
  have grow : ∀ (r c : Nat), c ≤ 2 * need + 768 → Builtin.growBy need r c ≤ 2 * need + 768 := by
    intro r
    induction r with
    | zero => intro c hc; exact hc
    | succ r ih =>
      intro c hc
      simp only [Builtin.growBy]
      split
      · exact hc
      · exact ih _ (by omega)
  unfold Builtin.nextslicecap
  split
  · omega
  · split
    · omega
    · exact grow 4 old (by omega)
theorem r_zeros {t : Option TypeId} (e : plainSrc P t = true) (w : World) : (match t with | some xType => do pure ((← underlying xType) matches .int _) | none => pure false : Sem Bool).run P w = .ok false w := by
  cases t with
  | none => rfl
  | some t =>
    simp only [plainSrc] at e
    cases hu : P.underlying t with
    | none => rw [hu] at e; cases e
    | some d =>
      simp only [Sem.run_bind, run_underlying hu, Result.andThen_ok, Sem.run_pure]
      rw [hu] at e
      cases d <;> first | rfl | cases e
/-- Appending where there is no room, in the world's own way. -/
theorem append_grow {sT elem : TypeId} {at2 : List TypeId} {info : TypeInfo} {z : Value} {ty : TypeId} {s' x' : Value} {base : Option Addr} {len cap n : Nat} {old new : List Value}
    (hsT : P.underlying sT = some (.slice elem)) (hi : P.info? elem = some info) (hz : info.zero = some z) (hzs : z.cells.size = info.size) (hpl : plainSrc P at2[0]? = true)
    (hs : s' = .slice base len cap) (hlen : ∀ w2 : World, (Builtin.lenOf x').run P w2 = .ok n w2) (hold : ∀ w2 : World, w2.heap = w.heap → (Builtin.firstCells info.size len s').run P w2 = .ok old.toArray w2)
    (hnew : ∀ w2 : World, w2.heap = w.heap → (Builtin.firstCells info.size n x').run P w2 = .ok new.toArray w2) (hol : old.length = len * info.size) (hnl : new.length = n * info.size)
    (hgt : cap < len + n) (hby : ¬(info.bytes = 0 ∨ (2 * (len + n) + 768) * info.bytes > 2 ^ 47)) :
    ∃ (c' : Array Value) (newCap : Nat) (w' : World), (Builtin.append_ (sT :: at2).toArray ty #[s', x']).run P w = .ok (.slice (some ⟨w.heap.size, 0, none⟩) (len + n) newCap) w' ∧
      w'.heap = w.heap.push (.cells c' elem) ∧ w'.os = w.os ∧ w'.tape = w.tape ∧ w'.output = w.output ∧ c'.size = newCap * info.size ∧ len + n ≤ newCap ∧ ∃ rest, c'.toList = old ++ new ++ rest := by
  subst hs
  have hb0 : info.bytes ≠ 0 := fun q => hby (.inl q)
  have hb1 : (2 * (len + n) + 768) * info.bytes ≤ 2 ^ 47 := by omega
  have hsz : sz P elem = some info.size := by simp [sz, hi]
  have hnc := nextcap_le hgt
  have hnb : ¬ Builtin.nextslicecap (len + n) cap * info.bytes > 2 ^ 48 := by
    have : Builtin.nextslicecap (len + n) cap * info.bytes ≤ (2 * (len + n) + 768) * info.bytes := Nat.mul_le_mul_right _ hnc
    omega
  have hge := grownCap_ge w (len + n) cap elem
  refine ⟨old.toArray ++ new.toArray ++ Builtin.zeroCells z.cells (grownCap w (len + n) cap elem - (len + n)), grownCap w (len + n) cap elem,
    w.drew.alloc (.cells (old.toArray ++ new.toArray ++ Builtin.zeroCells z.cells (grownCap w (len + n) cap elem - (len + n))) elem), ?_, rfl, rfl, rfl, rfl, ?_, hge, ?_⟩
  · have hroom : ¬ len + n ≤ cap := by omega
    have e0 : (sT :: at2).toArray[0]? = some sT := rfl
    have e1 : (sT :: at2).toArray[1]? = at2[0]? := by simp
    have hq : Question.forced (.appendCap (len + n) cap elem) = false := rfl
    have fin : ∀ Z : Array Value, w.drew.alloc (.cells (old.toArray ++ (new.toArray ++ Z)) elem) = w.drew.alloc (.cells ((old ++ new).toArray ++ Z) elem) := fun Z => by
      congr 2; apply Array.ext'; simp
    unfold Builtin.append_
    simp only [e0, e1, List.getElem?_toArray, List.getElem?_cons_zero, List.getElem?_cons_succ, Sem.run_bind, run_underlying hsT, Result.andThen_ok, r_size hsz]
    cases ht : at2[0]? with
    | none =>
      simp [hlen, hroom, hb0, hnb, hq, World.drew_eq, hold w.drew rfl, hnew w.drew rfl, r_zero hi hz, newRow, r_info hi]
      exact ⟨rfl, fin _⟩
    | some t =>
      rw [ht] at hpl
      simp only [plainSrc] at hpl
      cases hu : P.underlying t with
      | none => rw [hu] at hpl; cases hpl
      | some d =>
        rw [hu] at hpl
        simp only [Sem.run_bind, run_underlying hu, Result.andThen_ok, Sem.run_pure]
        cases d <;> first
          | (cases hpl; done)
          | (simp [hlen, hroom, hb0, hnb, hq, World.drew_eq, hold w.drew rfl, hnew w.drew rfl, r_zero hi hz, newRow, r_info hi]
             exact ⟨rfl, fin _⟩)
  · simp only [Array.size_append, List.size_toArray, size_zeroCells, hzs, hol, hnl]
    rw [← Nat.add_mul, ← Nat.add_mul]; congr 1; omega
  · exact ⟨(Builtin.zeroCells z.cells (grownCap w (len + n) cap elem - (len + n))).toList, by simp only [Array.toList_append]⟩
/-- Appending where there is room. -/
theorem append_room {sT elem : TypeId} {at2 : List TypeId} {size : Nat} {ty : TypeId} {x' : Value} {base : Option Addr} {len cap n : Nat} {new : List Value} {w' : World}
    (hsT : P.underlying sT = some (.slice elem)) (hsz : sz P elem = some size) (hpl : plainSrc P at2[0]? = true) (hlen : (Builtin.lenOf x').run P w = .ok n w)
    (hnew : (Builtin.firstCells size n x').run P w = .ok new.toArray w) (hle : len + n ≤ cap) (hst : ∀ a, base = some a → (storeCells (a.add (len * size)) new).run P w = .ok () w') (hb : base = none → w' = w) :
    (Builtin.append_ (sT :: at2).toArray ty #[.slice base len cap, x']).run P w = .ok (.slice base (len + n) cap) w' := by
  have e0 : (sT :: at2).toArray[0]? = some sT := rfl
  have e1 : (sT :: at2).toArray[1]? = at2[0]? := by simp
  unfold Builtin.append_
  simp only [e0, e1, List.getElem?_toArray, List.getElem?_cons_zero, List.getElem?_cons_succ, Sem.run_bind, run_underlying hsT, Result.andThen_ok, r_size hsz]
  cases ht : at2[0]? with
  | none =>
    cases base with
    | none => rw [hb rfl]; simp [hlen, hle, hnew]
    | some a => simp [hlen, hle, hnew, hst a rfl]
  | some t =>
    rw [ht] at hpl
    simp only [plainSrc] at hpl
    cases hu : P.underlying t with
    | none => rw [hu] at hpl; cases hpl
    | some d =>
      rw [hu] at hpl
      simp only [Sem.run_bind, run_underlying hu, Result.andThen_ok, Sem.run_pure]
      cases base with
      | none => rw [hb rfl]; cases d <;> first | (cases hpl; done) | simp [hlen, hle, hnew]
      | some a => have := hst a rfl; cases d <;> first | (cases hpl; done) | simp [hlen, hle, hnew, this]
theorem lr_len {l l' : List Value} (r : LR κ l l') : l'.length = l.length := r.1.symm
theorem append_ok (H : HR P κ h.m w) {ats : List TypeId} {ty : TypeId} {s s' x x' v : Value} {h' : Hp} (rs : VR κ s s') (rx : VR κ x x') (e : aappend P ro ats h s x = some (v, h')) :
    h.c ≤ h'.c ∧ (Free κ h.c h'.c → ∃ v' w' κ', (Builtin.append_ ats.toArray ty #[s', x']).run P w = .ok v' w' ∧ HR P κ' h'.m w' ∧ Gone ro κ κ' h h' w w' ∧ VR κ' v v') := by
  unfold aappend at e
  cases ats with
  | nil => simp at e
  | cons sT at2 =>
    simp only [List.getElem?_cons_zero, List.getElem?_cons_succ] at e
    split at e
    · rename_i elem hsT
      split at e
      · rename_i info n hi hln hpl
        split at e
        · rename_i new z hnew hz
          split at e
          · rename_i hc
            simp only [Bool.and_eq_true, beq_iff_eq] at hc
            obtain ⟨hsc, hnl⟩ := hc
            obtain ⟨i2, zv, hi2, hz', rfl, hcl, hzl⟩ := zero_inv hz
            rw [hi] at hi2; cases hi2
            have hzs : zv.cells.size = info.size := by rw [← hzl]; simp
            have hsz : sz P elem = some info.size := by simp [sz, hi]
            obtain ⟨new', rn, hnr⟩ := firsts_ok H rx hln (Nat.le_refl n) hnew
            have hlen := fun w2 => rx.len (P := P) hln w2
            have hnl' : new'.length = n * info.size := by rw [lr_len rn, hnl]
            have sc' := rn.scalars hsc
            cases rs with
            | sliceNil =>
              simp only at e
              split at e
              · rename_i hn0
                simp only [Option.some.injEq, Prod.mk.injEq] at e
                obtain ⟨rfl, rfl⟩ := e
                subst hn0
                exact ⟨Nat.le_refl _, fun _ => ⟨.slice none 0 0, w, κ, append_room (len := 0) (cap := 0) hsT hsz hpl (hlen w) (hnr w rfl) (Nat.le_refl _) (fun a q => by cases q) (fun _ => rfl), H, Gone.refl H, .sliceNil⟩⟩
              · rename_i hn0
                split at e
                · cases e
                · rename_i hby
                  simp only [Option.some.injEq, Prod.mk.injEq] at e
                  obtain ⟨rfl, rfl⟩ := e
                  refine ⟨by simp [Hp.new], fun hf => ?_⟩
                  obtain ⟨c', nc, w', hrun, hh, h1, h2, h3, hcs, hge, rest, hrest⟩ := append_grow (P := P) (w := w) (ty := ty) (base := none) (len := 0) (cap := 0) (old := []) (at2 := at2) hsT hi hz' hzs hpl rfl hlen (fun w2 _ => rfl) hnr (by simp) hnl' (by omega) (by simpa using hby)
                  have hfree := hf h.c (Nat.le_refl _) (by simp [Hp.new])
                  obtain ⟨a, b⟩ := new_cells (ro := ro) (l := new) H hfree false (0, 0) hsz (fun i v hv => by
                    obtain ⟨v', a, b⟩ := rn.get hv
                    refine ⟨v', ?_, b⟩
                    rw [← Array.getElem?_toList, hrest, List.nil_append, List.getElem?_append_left (List.getElem?_eq_some_iff.1 a).1]; exact a) (by rw [← Array.length_toList, hrest]; simp [lr_len rn]) (fun _ => rfl) hh h1 h2 h3
                  refine ⟨_, w', _, hrun, a, b, ?_⟩
                  rw [Nat.zero_add] at hge ⊢
                  exact vr_sliceU (Nat.le_refl n) hge (by rw [hcs]; exact Nat.le_refl _)
            | slice b off len c off' cap' hd hs =>
              simp only at e
              split at e
              · rename_i hn0
                simp only [Option.some.injEq, Prod.mk.injEq] at e
                obtain ⟨rfl, rfl⟩ := e
                subst hn0
                have : new' = [] := List.eq_nil_of_length_eq_zero (by simpa using hnl')
                subst this
                exact ⟨Nat.le_refl _, fun _ => ⟨_, w, κ, append_room (len := len) (cap := cap') hsT hsz hpl (hlen w) (hnr w rfl) (by have := hs.1; have := hs.cap; omega) (fun a q => rfl) (fun q => by cases q), H, Gone.refl H, .slice _ _ _ _ _ _ hd hs⟩⟩
              · rename_i hn0
                split at e
                · rename_i hle
                  split at e
                  · rename_i h2 hst
                    simp only [Option.some.injEq, Prod.mk.injEq] at e
                    obtain ⟨rfl, rfl⟩ := e
                    have ho := hs.off (by omega)
                    subst ho
                    obtain ⟨hcc, w', hrun, hH, hG⟩ := st_ok H rn hst
                    refine ⟨by omega, fun _ => ⟨_, w', κ, append_room (len := len) (cap := cap') hsT hsz hpl (hlen w) (hnr w rfl) (by have := hs.cap; omega) (fun a q => ?_) (fun q => by cases q), hH, hG, .slice _ _ _ _ _ _ hd ⟨by omega, hs.2⟩⟩⟩
                    cases q
                    rw [addr_add]; exact hrun
                  · cases e
                · rename_i hgt
                  split at e
                  · cases e
                  · rename_i hby
                    split at e
                    · rename_i old hold
                      have rss : VR κ (.slice (some ⟨b, off, none⟩) len c) (.slice (some ⟨κ.p b, off', none⟩) len cap') := .slice _ _ _ _ _ _ hd hs
                      obtain ⟨old', rol, hor⟩ := firsts_ok H rss rfl (Nat.le_refl len) hold
                      have hol : old.length = len * info.size := by
                        simp only [firsts] at hold
                        split at hold
                        · rename_i q; simp only [Option.some.injEq] at hold; subst hold; simp [q]
                        · exact (ld_ok H hold).2.1
                      have hol' : old'.length = len * info.size := by rw [lr_len rol, hol]
                      -- where the world grows
                      have grow : cap' < len + n → ¬κ.dom h.c → ∃ (v' : Value) (w' : World) (κ' : K), (Builtin.append_ (sT :: at2).toArray ty #[.slice (some ⟨κ.p b, off', none⟩) len cap', x']).run P w = .ok v' w' ∧
                          HR P κ' (h.new (.cells (old ++ new) elem false)).m w' ∧ Gone ro κ κ' h (h.new (.cells (old ++ new) elem false)) w w' ∧ (∀ i, κ'.dom i ↔ κ.dom i ∨ i = h.c) ∧ VR κ' (.slice (some ⟨h.c, 0, none⟩) (len + n) (2 * (len + n) + 1)) v' := by
                        intro hlt hfree
                        obtain ⟨c', nc, w', hrun, hh, h1, h2, h3, hcs, hge, rest, hrest⟩ := append_grow (P := P) (w := w) (ty := ty) (at2 := at2) hsT hi hz' hzs hpl rfl hlen hor hnr hol' hnl' hlt hby
                        obtain ⟨a, b⟩ := new_cells (ro := ro) (l := old ++ new) H hfree false (0, 0) hsz (fun i v hv => by
                          obtain ⟨v', a, b⟩ := (rol.append rn).get hv
                          refine ⟨v', ?_, b⟩
                          rw [← Array.getElem?_toList, hrest, List.getElem?_append_left (List.getElem?_eq_some_iff.1 a).1]; exact a) (by rw [← Array.length_toList, hrest]; simp [lr_len rn, lr_len rol]) (fun _ => rfl) hh h1 h2 h3
                        exact ⟨_, w', _, hrun, a, b, fun i => Iff.rfl, vr_sliceU (Nat.le_refl _) hge (by rw [hcs]; exact Nat.le_refl _)⟩
                      split at e
                      · rename_i hex
                        simp only [Option.some.injEq, Prod.mk.injEq] at e
                        obtain ⟨rfl, rfl⟩ := e
                        refine ⟨by simp [Hp.new], fun hf => ?_⟩
                        have hcap : cap' < len + n := by
                          rcases hs.2 with ⟨_, q, _⟩ | ⟨q, _⟩ <;> omega
                        obtain ⟨v', w', κ', a1, a2, a3, _, a4⟩ := grow hcap (hf h.c (Nat.le_refl _) (by simp [Hp.new]))
                        exact ⟨v', w', κ', a1, a2, a3, a4⟩
                      · rename_i hun
                        split at e
                        · rename_i oc oe hob
                          split at e
                          · rename_i hcond
                            obtain ⟨ho0, hc0, hoe, hosc⟩ := hcond
                            subst hoe
                            split at e
                            · rename_i h2 hu
                              simp only [Option.some.injEq, Prod.mk.injEq] at e
                              obtain ⟨rfl, rfl⟩ := e
                              obtain ⟨hr, rfl⟩ := Hp.upd_inv hu
                              refine ⟨by simp [Hp.new], fun hf => ?_⟩
                              have hfree := hf h.c (Nat.le_refl _) (by simp [Hp.new])
                              have hoff := hs.off hc0
                              subst hoff
                              subst ho0
                              by_cases hroom : len + n ≤ cap'
                              · -- in place
                                obtain ⟨hdb, o', ho', hor2⟩ := H.obj b _ hob
                                cases hor2 with
                                | cells _ _ _ c2 fz hcn hcl hcs hcc hcf =>
                                  have := hcf rfl
                                  subst this
                                  have hsb : info.size = κ.s b := by rw [hsz] at hcs; simpa using hcs
                                  have hbnd : cap' * info.size ≤ c2.size := by
                                    rcases hs.2 with ⟨q, _⟩ | ⟨_, _, _, q⟩
                                    · omega
                                    · rw [hcn, hsb]; omega
                                  have hfit : len * info.size + new'.length ≤ c2.size := by
                                    rw [hnl', ← Nat.add_mul]
                                    exact Nat.le_trans (Nat.mul_le_mul_right _ hroom) hbnd
                                  have hrun := run_storeCells_at P (κ.p b) (len * info.size) oe new' 0 c2 w ho' (by simpa using hfit) sc'
                                  simp only [Nat.add_zero] at hrun
                                  have hlt : κ.p b < w.heap.size := (Array.getElem?_eq_some_iff.1 ho').1
                                  have hcells : ∀ (i : Nat) v, old[i]? = some v → ∃ v', c2[i]? = some v' ∧ VR κ v v' := by
                                    intro i v hv
                                    simp only [firsts] at hold
                                    split at hold
                                    · simp only [Option.some.injEq] at hold; subst hold; simp at hv
                                    · unfold ldAt at hold
                                      rw [hob] at hold
                                      simp only [List.drop_zero] at hold
                                      by_cases hq : (oc.take (len * info.size)).length = len * info.size
                                      · rw [beqT hq] at hold
                                        simp only [cond_true, Option.some.injEq] at hold; subst hold
                                        rw [List.getElem?_take] at hv
                                        split at hv
                                        · exact hcc i v hv
                                        · cases hv
                                      · rw [beqF hq] at hold; cases hold
                                  have hx := Ext.add (κ.p b) (κ.n b) info.size hfree
                                  have hm := go_move (ro := ro) (w' := w.setRow (κ.p b) (c2.toList.take (len * info.size) ++ new' ++ c2.toList.drop (len * info.size + new'.length)).toArray) (n := κ.n b) (s := info.size) (o := .cells (old ++ new) oe false) H hfree hob hu (by simp [World.setRow]) (setRow_heap w (κ.p b) c2 _ oe (0, 0) ho')
                                    (fun k hk => by simp only [World.setRow]; rw [Array.getElem?_modify, if_neg (Ne.symm hk)]) rfl rfl rfl (by
                                      have ht : (c2.toList.take (len * info.size)).length = len * info.size := by simp; omega
                                      refine .cells _ _ _ _ _ ?_ ?_ ?_ (fun i v hv => ?_) (fun _ => rfl)
                                      · simp [K.add, ← hcn]; omega
                                      · simp [hol, hnl, hnl']; omega
                                      · intro s2 q; rw [hsz] at q; simp [K.add]; simpa using q.symm
                                      · by_cases hi1 : i < old.length
                                        · rw [List.getElem?_append_left hi1] at hv
                                          obtain ⟨v', a, b⟩ := hcells i v hv
                                          refine ⟨v', ?_, b.ext hx⟩
                                          simp only [List.getElem?_toArray]
                                          rw [List.append_assoc, List.getElem?_append_left (by omega), List.getElem?_take, if_pos (by omega), Array.getElem?_toList]; exact a
                                        · rw [List.getElem?_append_right (by omega)] at hv
                                          obtain ⟨v', a, b⟩ := rn.get hv
                                          refine ⟨v', ?_, b.ext hx⟩
                                          have hlt2 := (List.getElem?_eq_some_iff.1 a).1
                                          simp only [List.getElem?_toArray]
                                          rw [List.append_assoc, List.getElem?_append_right (by omega), List.getElem?_append_left (by rw [ht]; omega), ht, ← hol]; exact a)
                                  refine ⟨_, _, _, append_room (len := len) (cap := cap') hsT hsz hpl (hlen w) (hnr w rfl) hroom (fun a q => by cases q; rw [addr_add, Nat.zero_add]; exact hrun) (fun q => by cases q), hm.1, hm.2, ?_⟩
                                  have := VR.slice (κ := κ.add h.c (κ.p b) (κ.n b) info.size) h.c 0 (len + n) (2 * (len + n) + 1) 0 cap' (.inr rfl) ⟨by omega, .inr ⟨by omega, by omega, fun _ => rfl, by simp [K.add]; rw [← hcn]; exact hbnd⟩⟩
                                  simp only [K.add, if_true] at this
                                  exact this
                              · -- elsewhere: the old block is struck as well
                                obtain ⟨v', w', κ', a1, a2, a3, a5, a4⟩ := grow (by omega) hfree
                                have hg : ∀ i, (Hp.new { m := h.m.put b none, c := h.c, wl := addW b h.wl } (.cells (old ++ new) oe false)).m.get i = if i = h.c then some (.cells (old ++ new) oe false) else if i = b then none else h.m.get i := fun i => by
                                  rw [Hp.get_new]; simp only [Tr.get_put]
                                have hdb := (H.obj b _ hob).1
                                have hbc : b ≠ h.c := fun q => hfree (q ▸ hdb)
                                have hg2 : ∀ i, (h.new (.cells (old ++ new) oe false)).m.get i = if i = h.c then some (.cells (old ++ new) oe false) else h.m.get i := fun i => Hp.get_new _ _ _
                                refine ⟨v', w', κ', a1, a2.sub fun i o hi => ?_, ?_, a4⟩
                                · rw [hg] at hi
                                  rw [hg2]
                                  split at hi
                                  · rename_i q; rw [if_pos q]; exact hi
                                  · rename_i q; rw [if_neg q]
                                    split at hi
                                    · cases hi
                                    · exact hi
                                · refine { a3 with mono := a3.mono, new := a3.new, fresh := fun i hi => ?_, old := fun i hdi hi => ?_, same := fun i hdi hn => ?_, wle := fun i hi => mem_addW.2 (.inr hi) }
                                  · rw [hg] at hi
                                    have : ((h.new (.cells (old ++ new) oe false)).m.get i).isSome := by
                                      rw [hg2]
                                      split at hi
                                      · rename_i q; rw [if_pos q]; rfl
                                      · rename_i q; rw [if_neg q]
                                        split at hi
                                        · cases hi
                                        · exact hi
                                    rcases a3.fresh i this with q | q | ⟨k, hk, hdk, hsk, hzk, ek⟩
                                    · exact .inl q
                                    · exact .inr (.inl q)
                                    · refine .inr (.inr ⟨k, hk, hdk, hsk, ?_, ek⟩)
                                      rw [hg2] at hzk
                                      rw [hg]
                                      split at hzk
                                      · cases hzk
                                      · rename_i q; rw [if_neg q]
                                        split
                                        · rfl
                                        · exact hzk
                                  · rw [hg, if_neg (fun (q : i = h.c) => hfree (q ▸ hdi))] at hi
                                    split at hi
                                    · cases hi
                                    · exact hi
                                  · rw [hg, if_neg (fun (q : i = h.c) => hfree (q ▸ hdi)), if_neg fun q => hn (mem_addW.2 (.inl q))]
                            · cases e
                          · cases e
                        · cases e
                    · cases e
            | _ => simp at e
          · cases e
        · cases e
      · cases e
    · cases e
end
end Ex
end Go.Proofs.YtgbladpoglhleaaGreatDoor
