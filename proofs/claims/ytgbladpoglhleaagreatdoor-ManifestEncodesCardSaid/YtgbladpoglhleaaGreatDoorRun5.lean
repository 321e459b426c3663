/- The evaluator's operations beside the model's: addresses, parts, comparisons. No condition. -/
import Derived.Test.YtgbladpoglhleaaGreatDoorRun4
namespace Go.Proofs.YtgbladpoglhleaaGreatDoor
namespace Ex
section
variable {P : Program} {ro : Nat} {κ : K} {h : Hp} {w : World}
theorem indexAddr_ok {t : TypeId} {x x' i i' v : Value} (r : VR κ x x') (ri : VR κ i i') (e : aindexAddr P t x i = some v) : ∃ v', (Instr.indexAt t x' i').run P w = .ok v' w ∧ VR κ v v' := by
  unfold aindexAddr at e
  simp only [Option.bind_eq_bind] at e
  obtain ⟨n, hi, e⟩ := Option.bind_eq_some_iff.1 e
  obtain ⟨d, hd, e⟩ := Option.bind_eq_some_iff.1 e
  obtain ⟨k, rfl⟩ := asI_inv ri hi
  split at e
  · obtain ⟨s, hs, e⟩ := Option.bind_eq_some_iff.1 e
    split at e
    · rename_i hlt
      simp only [Option.some.injEq] at e; subst e
      cases r with
      | ptr b off hdb =>
        refine ⟨_, ?_, .ptr _ _ hdb⟩
        simp only [Instr.indexAt, Sem.run_bind, asIntOf, Sem.run_pure, Result.andThen_ok, run_underlying hd, Instr.sureAddr, hlt, and_self, if_true, r_size hs, addr_add]
    · cases e
  · obtain ⟨s, hs, e⟩ := Option.bind_eq_some_iff.1 e
    split at e
    · rename_i hlt
      simp only [Option.some.injEq] at e; subst e
      cases r with
      | slice b off len c off' cap' hdb hsl =>
        obtain ⟨hl, hsl⟩ := hsl
        have ho : _ = _ := hsl.elim (fun a => a.2.2) (fun a => a.2.2.1 (by omega))
        subst ho
        refine ⟨_, ?_, .ptr _ _ hdb⟩
        simp only [Instr.indexAt, Sem.run_bind, asIntOf, Sem.run_pure, Result.andThen_ok, run_underlying hd, hlt, and_self, if_true, r_size hs, addr_add]
    · cases e
  · cases e
theorem fieldAddr_ok {t : TypeId} {x x' v : Value} {f : Nat} (r : VR κ x x') (e : afieldAddr P t x f = some v) : ∃ v', (Instr.fieldAt t x' f).run P w = .ok v' w ∧ VR κ v v' := by
  unfold afieldAddr at e
  simp only [Option.bind_eq_bind] at e
  obtain ⟨d, hd, e⟩ := Option.bind_eq_some_iff.1 e
  split at e
  · obtain ⟨fl, hf, e⟩ := Option.bind_eq_some_iff.1 e
    obtain ⟨n, hn, e⟩ := Option.bind_eq_some_iff.1 e
    split at e
    · cases e
    · rename_i h0
      simp only [Option.some.injEq] at e; subst e
      cases r with
      | ptr b off hdb =>
        refine ⟨_, ?_, .ptr _ _ hdb⟩
        simp only [Instr.fieldAt, Sem.run_bind, run_underlying hd, Result.andThen_ok, hf, Instr.sureAddr, Sem.run_pure, fieldPlace, r_size hn, h0, if_false, addr_add]
  · cases e
theorem part_ok {t : TypeId} {cs : List Value} {xs : Array Value} {off : Nat} {v : Value} (r : LR κ cs xs.toList) (e : apart P t cs off = some v) : ∃ v', (part t xs off).run P w = .ok v' w ∧ VR κ v v' := by
  unfold apart at e
  simp only [Option.bind_eq_bind] at e
  obtain ⟨g, hg, e⟩ := Option.bind_eq_some_iff.1 e
  cases g with
  | true =>
    simp only [if_true] at e
    obtain ⟨n, hn, e⟩ := Option.bind_eq_some_iff.1 e
    simp only [Option.some.injEq] at e; subst e
    refine ⟨.agg (xs.extract off (off + n)), ?_, ?_⟩
    · simp [part, r_agg hg, r_size hn]
    · have := ((r.drop off).take n).agg
      have hx : xs.extract off (off + n) = ((xs.toList.drop off).take n).toArray := by
        apply Array.ext'
        simp [List.extract_eq_take_drop]
      rw [hx]; exact this
  | false =>
    simp only [Bool.false_eq_true, if_false] at e
    obtain ⟨v', a, b⟩ := r.get e
    rw [Array.getElem?_toList] at a
    exact ⟨v', by simp [part, r_agg hg, a], b⟩
theorem VR.agg_inv {cs : Array Value} {x' : Value} (r : VR κ (.agg cs) x') : ∃ xs, x' = .agg xs ∧ LR κ cs.toList xs.toList := by
  cases r with
  | agg _ xs hx hh => exact ⟨xs, rfl, LR.of_arr hx hh⟩
theorem field_ok {t : TypeId} {x x' v : Value} {f : Nat} (r : VR κ x x') (e : afield P t x f = some v) : ∃ v', (Instr.field t x' f).run P w = .ok v' w ∧ VR κ v v' := by
  unfold afield at e
  simp only [Option.bind_eq_bind] at e
  obtain ⟨d, hd, e⟩ := Option.bind_eq_some_iff.1 e
  split at e
  · obtain ⟨fl, hf, e⟩ := Option.bind_eq_some_iff.1 e
    obtain ⟨xs, rfl, hl⟩ := r.agg_inv
    obtain ⟨v', a, b⟩ := part_ok (w := w) hl e
    exact ⟨v', by simp [Instr.field, run_underlying hd, hf, asAgg, a], b⟩
  · cases e
theorem index_ok {t : TypeId} {x x' i i' v : Value} (r : VR κ x x') (ri : VR κ i i') (e : aindex P t x i = some v) : ∃ v', (Instr.index t x' i').run P w = .ok v' w ∧ VR κ v v' := by
  unfold aindex at e
  simp only [Option.bind_eq_bind] at e
  obtain ⟨n, hi, e⟩ := Option.bind_eq_some_iff.1 e
  obtain ⟨d, hd, e⟩ := Option.bind_eq_some_iff.1 e
  split at e
  · obtain ⟨s, hs, e⟩ := Option.bind_eq_some_iff.1 e
    obtain ⟨k, rfl⟩ := asI_inv ri hi
    obtain ⟨xs, rfl, hl⟩ := r.agg_inv
    split at e
    · rename_i hlt
      obtain ⟨v', a, b⟩ := part_ok (w := w) hl e
      exact ⟨v', by simp [Instr.index, asIntOf, run_underlying hd, hlt, r_size hs, a], b⟩
    · cases e
  · cases r with
    | string s =>
      obtain ⟨a, b⟩ := cval_run e κ w
      have : i' = i := by
        cases ri with
        | int k n => rfl
        | _ => simp [asI] at hi
      rw [this]
      exact ⟨v, a, b⟩
  · cases e
theorem arrayAt_ok {t : TypeId} {x x' v : Value} (r : VR κ x x') (e : aarrayAt P t x = some v) : ∃ v', (Instr.arrayAt t x').run P w = .ok v' w ∧ VR κ v v' := by
  unfold aarrayAt at e
  simp only [Option.bind_eq_bind] at e
  obtain ⟨d, hd, e⟩ := Option.bind_eq_some_iff.1 e
  split at e
  · split at e
    · split at e
      · cases e
      · rename_i h0
        split at e
        · cases e
        · rename_i hlt
          simp only [Option.some.injEq] at e; subst e
          cases r with
          | slice b off len c off' cap' hdb hsl =>
            obtain ⟨hl, hsl⟩ := hsl
            have ho : _ = _ := hsl.elim (fun a => a.2.2) (fun a => a.2.2.1 (by omega))
            subst ho
            exact ⟨_, by simp only [Instr.arrayAt, Sem.run_bind, run_underlying hd, Result.andThen_ok, hlt, if_false, Sem.run_pure], .ptr _ _ hdb⟩
    · cases e
  · cases e
theorem nilCheck_ok {x x' v : Value} (r : VR κ x x') (e : anilCheck x = some v) (o : Oper) (y : Operand) (ρ : Operand → Value) (ho : o.op = .nilCheck y) (hy : ρ y = x') :
    ∃ v', (execOp ρ o).run P w = .ok (.value v') w ∧ VR κ v v' := by
  unfold anilCheck at e
  split at e
  · simp only [Option.some.injEq] at e; subst e
    cases r with
    | ptr b off hdb => exact ⟨_, by simp [execOp, ho, hy], .ptr _ _ hdb⟩
  · simp only [Option.some.injEq] at e; subst e
    cases r with
    | iface t v v' hv => exact ⟨_, by simp [execOp, ho, hy], .iface _ _ _ hv⟩
  · simp only [Option.some.injEq] at e; subst e
    cases r with
    | func f xs ys xs' ys' a b c d => exact ⟨_, by simp [execOp, ho, hy], .func _ _ _ _ _ a b c d⟩
  · simp only [Option.some.injEq] at e; subst e
    cases r with
    | mapNil => exact ⟨_, by simp [execOp, ho, hy], .mapNil⟩
    | map r hr => exact ⟨_, by simp [execOp, ho, hy], .map _ hr⟩
  · cases e
theorem assert_ok {x x' v : Value} {xt a : TypeId} {ok : Bool} (r : VR κ x x') (e : aassert P x a ok = some v) : ∃ v', (Instr.typeAssert x' xt a ok).run P w = .ok v' w ∧ VR κ v v' := by
  unfold aassert at e
  simp only [Option.bind_eq_bind] at e
  obtain ⟨d, hd, e⟩ := Option.bind_eq_some_iff.1 e
  split at e
  · cases e
  · rename_i t u hne _
    split at e
    · rename_i ht
      simp only [Option.some.injEq] at e; subst e; subst ht
      cases r with
      | iface _ _ u' hu =>
        have hd' : ∀ ms, d ≠ .interface ms := fun ms q => hne ms q
        refine ⟨if ok then .tuple #[u', .bool true] else u', ?_, ?_⟩
        · simp only [Instr.typeAssert, Sem.run_bind, run_underlying hd, Result.andThen_ok]
          cases d <;> first | exact absurd rfl (hd' _) | simp
        · cases ok with
          | true => exact (LR.cons hu (LR.cons (.bool true) (LR.nil κ))).tuple
          | false => exact hu
    · cases e
  · cases e
/-! ### Comparisons -/
theorem cell_plain (H : HR P κ h.m w) {b : Nat} {c : List Value} {t : TypeId} (hb : h.m.get b = some (.cells c t false)) : ∃ c', w.heap[κ.p b]? = some (.cells c' t (0, 0)) := by
  obtain ⟨_, o', ho', hr⟩ := H.obj b _ hb
  cases hr with
  | cells _ _ _ c' fz _ _ _ _ hf => rw [hf rfl] at ho'; exact ⟨c', ho'⟩
theorem sameAddr_apart {a b o o' : Nat} {t t' : TypeId} {c c' : Array Value} (hne : a ≠ b) (ha : w.heap[a]? = some (.cells c t (0, 0))) (hb : w.heap[b]? = some (.cells c' t' (0, 0))) :
    (sameAddr ⟨a, o, none⟩ ⟨b, o', none⟩).run P w = .ok false w := by
  have fa : ∀ o, w.frozen? ⟨a, o, none⟩ = false := fun o => by simp [World.frozen?, ha]
  have fb : ∀ o, w.frozen? ⟨b, o, none⟩ = false := fun o => by simp [World.frozen?, hb]
  have sa : w.shape? a = some (t, c.size) := by simp [World.shape?, ha]
  have sb : w.shape? b = some (t', c'.size) := by simp [World.shape?, hb]
  have hb' : (a == b) = false := by simpa using hne
  simp [sameAddr, hb', fa, fb, noView, viewAt, sa, sb, mayBeOne, stringish]
theorem sameAddr_one {a o o' : Nat} : (sameAddr ⟨a, o, none⟩ ⟨a, o', none⟩).run P w = .ok (o == o') w := by
  have : ((⟨a, o, none⟩ : Addr) == ⟨a, o', none⟩) = (o == o') := by rw [Bool.eq_iff_iff]; simp
  simp only [sameAddr, beq_self_eq_true, if_true, Sem.run_pure, this]
theorem aeq_ok (H : HR P κ h.m w) {t : TypeId} {x x' y y' : Value} {b : Bool} (rx : VR κ x x') (ry : VR κ y y') (e : aeq P t h x y = some b) :
    (Op.equal t x' y').run P w = .ok b w ∧ (∀ op ox oy, (eqGuard op t ox oy x' y').run P w = .ok () w) ∧ binOp .eql t x' y' = (do pure (.bool (← Op.equal t x' y'))) ∧ binOp .neq t x' y' = (do pure (.bool (!(← Op.equal t x' y')))) := by
  unfold aeq at e
  simp only [Option.bind_eq_bind] at e
  obtain ⟨d, hd, e2⟩ := Option.bind_eq_some_iff.1 e
  clear e
  have e := e2
  clear e2
  suffices h1 : (∀ dd, (Op.equalIn (dd + 1) t x' y').run P w = .ok b w) ∧ (∀ op ox oy, (eqGuard op t ox oy x' y').run P w = .ok () w) ∧ binOp .eql t x' y' = (do pure (.bool (← Op.equal t x' y'))) ∧ binOp .neq t x' y' = (do pure (.bool (!(← Op.equal t x' y')))) from
    ⟨h1.1 9999, h1.2⟩
  split at e
  · simp only [Option.some.injEq] at e; subst e
    cases rx with
    | ptrNil =>
      cases ry with
      | ptrNil => exact ⟨fun dd => by simp only [Op.equalIn, Sem.run_bind, run_underlying hd, Result.andThen_ok]; rfl, fun op ox oy => by cases op <;> rfl, rfl, rfl⟩
      | ptr b off hb => exact ⟨fun dd => by simp only [Op.equalIn, Sem.run_bind, run_underlying hd, Result.andThen_ok]; rfl, fun op ox oy => by cases op <;> rfl, rfl, rfl⟩
  · simp only [Option.some.injEq] at e; subst e
    cases rx with
    | ptr b off hb =>
      cases ry with
      | ptrNil => exact ⟨fun dd => by simp only [Op.equalIn, Sem.run_bind, run_underlying hd, Result.andThen_ok]; rfl, fun op ox oy => by cases op <;> rfl, rfl, rfl⟩
  · obtain ⟨s, hs, e2⟩ := Option.bind_eq_some_iff.1 e
    clear e
    have e := e2
    clear e2
    cases rx with
    | ptr b1 o1 hb1 =>
      cases ry with
      | ptr b2 o2 hb2 =>
        split at e
        · cases e
        · rename_i h0
          refine ⟨fun dd => ?_, fun op ox oy => by cases op <;> rfl, rfl, rfl⟩
          simp only [Op.equalIn, Sem.run_bind, run_underlying hd, Result.andThen_ok, r_size hs, h0, ne_eq, not_false_eq_true, if_true]
          split at e
          · rename_i hb; subst hb
            simp only [Option.some.injEq] at e; subst e
            exact sameAddr_one
          · rename_i hb
            split at e
            · rename_i c1 t1 c2 t2 g1 g2
              simp only [Option.some.injEq] at e; subst e
              obtain ⟨x1, q1⟩ := cell_plain H g1
              obtain ⟨x2, q2⟩ := cell_plain H g2
              exact sameAddr_apart (fun q => hb (H.inj _ _ (by rw [g1]; rfl) (by rw [g2]; rfl) q)) q1 q2
            · cases e
  all_goals first
    | (cases e; done)
    | (simp only [Option.some.injEq] at e; subst e
       cases rx <;> cases ry <;> exact ⟨fun dd => by simp only [Op.equalIn, Sem.run_bind, run_underlying hd, Result.andThen_ok]; rfl, fun op ox oy => by cases op <;> rfl, rfl, rfl⟩)
theorem bin_ok (H : HR P κ h.m w) {op : BinOp} {t : TypeId} {ox oy : Operand} {x x' y y' v : Value} (rx : VR κ x x') (ry : VR κ y y') (e : abin P op t ox oy h x y = some v) :
    ∃ v', (do eqGuard op t ox oy x' y'; binOp op t x' y' : Sem Value).run P w = .ok v' w ∧ VR κ v v' := by
  unfold abin at e
  split at e
  · rename_i hc
    simp only [Bool.and_eq_true] at hc
    rw [rx.closed hc.1, ry.closed hc.2]
    obtain ⟨a, b⟩ := cval_run e κ w
    exact ⟨v, a, b⟩
  · split at e
    · obtain ⟨b, hb, rfl⟩ := Option.map_eq_some_iff.1 e
      obtain ⟨h1, h2, h3, _⟩ := aeq_ok H rx ry hb
      exact ⟨.bool b, by rw [Sem.run_bind, h2, Result.andThen_ok, h3]; simp [h1], .bool b⟩
    · obtain ⟨b, hb, rfl⟩ := Option.map_eq_some_iff.1 e
      obtain ⟨h1, h2, _, h4⟩ := aeq_ok H rx ry hb
      exact ⟨.bool !b, by rw [Sem.run_bind, h2, Result.andThen_ok, h4]; simp [h1], .bool _⟩
    · cases e
end
end Ex
end Go.Proofs.YtgbladpoglhleaaGreatDoor
