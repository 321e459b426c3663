/- The evaluator's operations beside the model's: maps and iterators. No condition. -/
import Derived.Test.YtgbladpoglhleaaGreatDoorRun5
import Derived.MapKept
namespace Go.Proofs.YtgbladpoglhleaaGreatDoor
namespace Ex
section
variable {P : Program} {ro : Nat} {κ : K} {h : Hp} {w : World}
theorem keyOk_inv {t : TypeId} (e : keyOk P t = true) : P.underlying t = some .string ∨ (∃ k, P.underlying t = some (.int k)) ∨ (∃ a, P.underlying t = some (.pointer a)) ∨ P.underlying t = some .bool := by
  unfold keyOk at e
  cases hu : P.underlying t with
  | none => rw [hu] at e; cases e
  | some d => rw [hu] at e; cases d <;> simp_all
theorem checkKey_ok {t : TypeId} (e : keyOk P t = true) (b : Bool) (v : Value) (w : World) : (Instr.checkKey b 10000 t v).run P w = .ok () w := by
  suffices hs : ∀ n, (Instr.checkKey b (n + 1) t v).run P w = .ok () w from hs 9999
  intro n
  rcases keyOk_inv e with hu | ⟨k, hu⟩ | ⟨k, hu⟩ | hu <;> simp only [Instr.checkKey, Sem.run_bind, run_underlying hu, Result.andThen_ok, Sem.run_pure]
theorem eq_str {t : TypeId} (hu : P.underlying t = some .string) {x y : Value} {b : Bool} (e : (Op.equal t x y).run P w = .ok b w) : ∃ a c, x = .string a ∧ y = .string c ∧ b = (a == c) := by
  have e' : (Op.equalIn (9999 + 1) t x y).run P w = .ok b w := e
  clear e
  generalize 9999 = n at e'
  simp only [Op.equalIn, Sem.run_bind, run_underlying hu, Result.andThen_ok] at e'
  split at e' <;> first
    | (simp at e'; done)
    | (rename_i hh; cases hh; done)
    | skip
  all_goals first
    | (simp only [Sem.run_pure, Result.ok.injEq, and_true] at e'; exact ⟨_, _, rfl, rfl, e'.symm⟩)
    | (rename_i hh _ _; cases hh; done)
    | skip
theorem eq_int {t : TypeId} {kk : IntKind} (hu : P.underlying t = some (.int kk)) {x y : Value} {b : Bool} (hx : closed x = true) (hy : closed y = true) (e : (Op.equal t x y).run P w = .ok b w) :
    ∃ k a c, x = .int k a ∧ y = .int k c ∧ b = (a == c) := by
  have e' : (Op.equalIn (9999 + 1) t x y).run P w = .ok b w := e
  clear e
  generalize 9999 = n at e'
  simp only [Op.equalIn, Sem.run_bind, run_underlying hu, Result.andThen_ok] at e'
  cases x <;> cases y <;> first
    | (simp at e'; done)
    | (rename_i k a k' c
       simp only at e'
       split at e'
       · rename_i hk; subst hk
         simp only [Sem.run_pure, Result.ok.injEq, and_true] at e'; exact ⟨_, _, _, rfl, rfl, e'.symm⟩
       · simp at e')
    | (rename_i a _ _; cases a <;> simp [closed, closedV] at hx <;> simp at e'; done)
    | (rename_i a; cases a <;> simp [closed, closedV] at hx hy <;> simp at e'; done)
    | (rename_i a c; cases a <;> cases c <;> simp [closed, closedV] at hx hy <;> simp at e'; done)
    | (rename_i a c d; cases d <;> simp [closed, closedV] at hx hy <;> simp at e'; done)
    | skip
theorem eq_bool {t : TypeId} (hu : P.underlying t = some .bool) {x y : Value} {b : Bool} (e : (Op.equal t x y).run P w = .ok b w) : ∃ a c, x = .bool a ∧ y = .bool c ∧ b = (a == c) := by
  have e' : (Op.equalIn (9999 + 1) t x y).run P w = .ok b w := e
  clear e
  generalize 9999 = n at e'
  simp only [Op.equalIn, Sem.run_bind, run_underlying hu, Result.andThen_ok] at e'
  cases x <;> cases y <;> first
    | (simp at e'; done)
    | (simp only [Sem.run_pure, Result.ok.injEq, and_true] at e'; exact ⟨_, _, rfl, rfl, e'.symm⟩)
theorem eq_ptr {t el : TypeId} (hu : P.underlying t = some (.pointer el)) {x y : Value} {b : Bool} (hx : closed x = true) (hy : closed y = true) (e : (Op.equal t x y).run P w = .ok b w) :
    x = .pointer none ∧ y = .pointer none ∧ b = true := by
  have e' : (Op.equalIn (9999 + 1) t x y).run P w = .ok b w := e
  clear e
  generalize 9999 = n at e'
  simp only [Op.equalIn, Sem.run_bind, run_underlying hu, Result.andThen_ok] at e'
  cases x <;> cases y <;> first
    | (simp at e'; done)
    | (rename_i a c
       cases a <;> cases c <;> simp [closed, closedV] at hx hy <;> first
        | (simp only [Sem.run_pure, Result.ok.injEq, and_true] at e'; exact ⟨rfl, rfl, e'.symm⟩)
        | (simp at e'; done))
    | (rename_i a; cases a <;> simp [closed, closedV] at hx hy <;> simp at e'; done)
    | (rename_i a _; cases a <;> simp [closed, closedV] at hx hy <;> simp at e'; done)
    | (rename_i a _ _; cases a <;> simp [closed, closedV] at hx hy <;> simp at e'; done)
    | (rename_i a _ _ _; cases a <;> simp [closed, closedV] at hx hy <;> simp at e'; done)
/-- One comparison of keys. -/
theorem key_step (H : HR P κ h.m w) {t : TypeId} (hk : keyOk P t = true) {k k' x x' : Value} (rk : VR κ k k') (rx : VR κ x x') {b : Bool} {d : TypeDesc} (hd : P.underlying t = some d)
    (e : (if closed k && closed x then val? P (Op.equal t k x) else aeq P t h k x) = some b) :
    (Op.equal t k' x').run P w = .ok b w ∧ (b = true → k' = x' ∧ Instr.sameBits 10000 x' k' = true) ∧ ((∀ el, d ≠ .pointer el) → Instr.sameNow d k' x' = some b) := by
  have sb : ∀ v : Value, (match v with | .string _ | .int _ _ | .bool _ | .pointer _ => True | _ => False) → Instr.sameBits (9999 + 1) v v = true := by
    intro v hv
    cases v <;> first | exact hv.elim | (simp [Instr.sameBits]; done) | (simp only [Instr.sameBits]; exact (MapKept.bytes_beq _ _).2 rfl)
  split at e
  · rename_i hc
    simp only [Bool.and_eq_true] at hc
    have e1 := rk.closed hc.1
    have e2 := rx.closed hc.2
    subst e1; subst e2
    have hr := val?_run w _ _ e
    refine ⟨hr, ?_, ?_⟩
    · rcases keyOk_inv hk with hu | ⟨kk, hu⟩ | ⟨el, hu⟩ | hu
      · obtain ⟨a, c, rfl, rfl, rfl⟩ := eq_str hu hr
        intro q
        have : a = c := (MapKept.bytes_beq _ _).1 q
        subst this; exact ⟨rfl, sb (.string a) trivial⟩
      · obtain ⟨kn, a, c, rfl, rfl, rfl⟩ := eq_int hu hc.1 hc.2 hr
        intro q
        have : a = c := by simpa using q
        subst this; exact ⟨rfl, sb (.int kn a) trivial⟩
      · obtain ⟨rfl, rfl, _⟩ := eq_ptr hu hc.1 hc.2 hr
        exact fun _ => ⟨rfl, sb (.pointer none) trivial⟩
      · obtain ⟨a, c, rfl, rfl, rfl⟩ := eq_bool hu hr
        intro q
        have : a = c := by simpa using q
        subst this; exact ⟨rfl, sb (.bool a) trivial⟩
    · intro hne
      rcases keyOk_inv hk with hu | ⟨kk, hu⟩ | ⟨el, hu⟩ | hu
      · obtain ⟨a, c, rfl, rfl, rfl⟩ := eq_str hu hr
        rw [hd] at hu; cases hu; rfl
      · obtain ⟨kn, a, c, rfl, rfl, rfl⟩ := eq_int hu hc.1 hc.2 hr
        rw [hd] at hu; cases hu; simp [Instr.sameNow]
      · rw [hd] at hu; cases hu; exact absurd rfl (hne el)
      · obtain ⟨a, c, rfl, rfl, rfl⟩ := eq_bool hu hr
        rw [hd] at hu; cases hu; rfl
  · obtain ⟨h1, _⟩ := aeq_ok H rk rx e
    refine ⟨h1, ?_, ?_⟩
    · unfold aeq at e
      rw [hd] at e
      simp only [Option.bind_eq_bind, Option.bind_some] at e
      rcases keyOk_inv hk with hu | ⟨kk, hu⟩ | ⟨el, hu⟩ | hu <;> rw [hd] at hu <;> cases hu <;> try simp only at e
      · cases e
      · cases e
      · split at e
        · rename_i hne _ _
          cases rk with
          | ptrNil => cases rx with
            | ptrNil => exact fun _ => ⟨rfl, sb (.pointer none) trivial⟩
            | ptr => simp at e; subst e; intro q; cases q
        · simp at e; subst e; intro q; cases q
        · cases rk with
          | ptr b1 o1 hb1 =>
            cases rx with
            | ptr b2 o2 hb2 =>
              obtain ⟨s, hs, e2⟩ := Option.bind_eq_some_iff.1 e
              split at e2
              · cases e2
              · split at e2
                · rename_i hb; subst hb
                  intro q; subst q
                  simp only [Option.some.injEq, beq_iff_eq] at e2
                  subst e2; exact ⟨rfl, sb _ trivial⟩
                · split at e2
                  · simp at e2; subst e2; intro q; cases q
                  · cases e2
        all_goals first | (cases ‹TypeDesc.pointer el = _›; done) | (cases e; done)
      · cases e
    · intro hne
      unfold aeq at e
      rw [hd] at e
      simp only [Option.bind_eq_bind, Option.bind_some] at e
      rcases keyOk_inv hk with hu | ⟨kk, hu⟩ | ⟨el, hu⟩ | hu <;> rw [hd] at hu <;> cases hu <;> try simp only at e
      · cases e
      · cases e
      · exact absurd rfl (hne el)
      · cases e
def FR (κ : K) (lo hi : Nat) (es' : List MapEntry) (k' : Value) : Option (Nat × Value) → Option (Nat × Value) → Prop
  | none, none => True
  | some (i, v), some (j, v') => i = j ∧ lo ≤ i ∧ i < hi ∧ VR κ v v' ∧ ∃ e', es'[i - lo]? = some e' ∧ k' = e'.key ∧ Instr.sameBits 10000 e'.key k' = true
  | _, _ => False
theorem ERs.cons_inv {e : MapEntry} {es zs : List MapEntry} (h : ERs κ (e :: es) zs) : ∃ e' es', zs = e' :: es' ∧ ER κ e e' ∧ ERs κ es es' := by
  cases zs with
  | nil => have := h.1; simp at this
  | cons y ys => exact ⟨y, ys, rfl, h.2 0 e y rfl rfl, by simpa using h.1, fun i v v' a b => h.2 (i + 1) v v' (by simpa using a) (by simpa using b)⟩
theorem find_ok (H : HR P κ h.m w) {t : TypeId} (hk : keyOk P t = true) {k k' : Value} (rk : VR κ k k') {d : TypeDesc} (hd : P.underlying t = some d) :
    ∀ (es es' : List MapEntry) (i : Nat) (r : Option (Nat × Value)), ERs κ es es' → findE P t h k es i = some r → ∃ r', FR κ i (i + es.length) es' k' r r' ∧
      (Instr.findAsking t k' es' i).run P w = .ok r' w ∧ ((∀ el, d ≠ .pointer el) → Instr.findNow d k' es' i = some r')
  | [], es', i, r, he, e => by
    have : es' = [] := by
      cases es' with
      | nil => rfl
      | cons => have := he.1; simp at this
    subst this
    simp only [findE, Option.some.injEq] at e; subst e
    exact ⟨none, trivial, rfl, fun _ => rfl⟩
  | x :: es, es', i, r, he, e => by
    obtain ⟨x', ys, rfl, hx, hes⟩ := he.cons_inv
    simp only [findE, Option.bind_eq_bind] at e
    obtain ⟨b, hb, e2⟩ := Option.bind_eq_some_iff.1 e
    obtain ⟨h1, h2, h3⟩ := key_step H hk rk hx.1 hd hb
    cases b with
    | true =>
      simp only [if_true, Option.some.injEq] at e2; subst e2
      obtain ⟨q1, q2⟩ := h2 rfl
      refine ⟨some (i, x'.val), ⟨rfl, Nat.le_refl _, by simp, hx.2.1, x', by simp, q1, q2⟩, ?_, fun hne => ?_⟩
      · simp only [Instr.findAsking, Sem.run_bind, h1, Result.andThen_ok, if_true, Sem.run_pure]
      · simp only [Instr.findNow, h3 hne]
    | false =>
      simp only [Bool.false_eq_true, if_false] at e2
      obtain ⟨r', hr, hrun, hnow⟩ := find_ok H hk rk hd es ys (i + 1) r hes e2
      refine ⟨r', ?_, ?_, fun hne => ?_⟩
      · cases r with
        | none => cases r' with
          | none => trivial
          | some _ => exact hr.elim
        | some a => cases r' with
          | none => exact hr.elim
          | some a' =>
            obtain ⟨i1, v1⟩ := a
            obtain ⟨i2, v2⟩ := a'
            obtain ⟨q1, q2, q3, q4, e', q5, q6⟩ := hr
            refine ⟨q1, by omega, by simp at q3 ⊢; omega, q4, e', ?_, q6⟩
            rw [show i1 - i = (i1 - (i + 1)) + 1 from by omega, List.getElem?_cons_succ]; exact q5
      · simp only [Instr.findAsking, Sem.run_bind, h1, Result.andThen_ok, Bool.false_eq_true, if_false, hrun]
      · simp only [Instr.findNow, h3 hne, hnow hne]
theorem findKey_ok (H : HR P κ h.m w) {t : TypeId} (hk : keyOk P t = true) {k k' : Value} (rk : VR κ k k') {es es' : List MapEntry} {r : Option (Nat × Value)} (he : ERs κ es es') (e : findE P t h k es 0 = some r) :
    ∃ r', FR κ 0 es.length es' k' r r' ∧ (Instr.findKey t k' es').run P w = .ok r' w := by
  obtain ⟨d, hd⟩ : ∃ d, P.underlying t = some d := by
    rcases keyOk_inv hk with hu | ⟨_, hu⟩ | ⟨_, hu⟩ | hu <;> exact ⟨_, hu⟩
  obtain ⟨r', h1, h2, h3⟩ := find_ok H hk rk hd es es' 0 r he e
  rw [Nat.zero_add] at h1
  refine ⟨r', h1, ?_⟩
  simp only [Instr.findKey, Sem.run_bind, run_underlying hd, Result.andThen_ok]
  by_cases hp : ∃ el, d = .pointer el
  · obtain ⟨el, rfl⟩ := hp
    cases es' with
    | nil => simp only [Instr.findAsking, Sem.run_pure, Result.ok.injEq, and_true] at h2; subst h2; rfl
    | cons x xs =>
      have : Instr.findNow (.pointer el) k' (x :: xs) 0 = none := by simp [Instr.findNow, Instr.sameNow]
      rw [this]; exact h2
  · rw [h3 fun el q => hp ⟨el, q⟩]; rfl
theorem map_obj (H : HR P κ h.m w) {r : Nat} {es : List MapEntry} {clock : Nat} (hr : h.m.get r = some (.map es clock)) :
    κ.dom r ∧ ∃ es', w.heap[κ.p r]? = some (.map es' clock) ∧ ERs κ es es'.toList := by
  obtain ⟨hd, o', ho', hor⟩ := H.obj r _ hr
  cases hor with
  | map _ _ es' he => exact ⟨hd, es', ho', he⟩
theorem r_getObj {r : Nat} {o : Obj} (e : w.heap[r]? = some o) (hn : ∀ a b c, o ≠ .cells a b c) : (getObj r).run P w = .ok o w := by
  cases o <;> first | (simp only [getObj, Sem.run, e]; done) | exact absurd rfl (hn _ _ _)
theorem r_setObj {r : Nat} {o x : Obj} (e : w.heap[r]? = some x) (hn : ∀ a b c, x ≠ .cells a b c) : (setObj r o).run P w = .ok () { w with heap := w.heap.setIfInBounds r o } := by
  cases x <;> first | (simp only [setObj, Sem.run, e]; done) | exact absurd rfl (hn _ _ _)
/-- A block that is no row of cells, turned. -/
theorem set_ok (H : HR P κ h.m w) {b : Nat} {o x : AO} {o' x' : Obj} {h' : Hp} (hb : h.m.get b = some x) (e : h.upd ro b (some o) = some h') (hx : w.heap[κ.p b]? = some x')
    (ho : OR P κ b o o') : HR P κ h'.m { w with heap := w.heap.setIfInBounds (κ.p b) o' } ∧ Gone ro κ κ h h' w { w with heap := w.heap.setIfInBounds (κ.p b) o' } := by
  have hlt : κ.p b < w.heap.size := (Array.getElem?_eq_some_iff.1 hx).1
  refine go_upd H hb e (by simp) (by simp [hlt]) (fun k hk => ?_) rfl rfl rfl ho
  simp only
  rw [Array.getElem?_setIfInBounds_ne (Ne.symm hk)]
theorem lookup_ok' (H : HR P κ h.m w) {t kt et : TypeId} {m m' k k' v qv : Value} {ok qb : Bool} {es : List MapEntry} {r : Option (Nat × Value)} (rm : VR κ m m') (rk : VR κ k k')
    (hd : P.underlying t = some (.map kt et)) (hk : keyOk P kt = true) (hes : mapEs h m = some es) (hr : findE P kt h k es 0 = some r) (hq : foundV P et r = some (qv, qb))
    (e4 : (if ok = true then Value.tuple #[qv, .bool qb] else qv) = v) : ∃ v', (Instr.lookup t m' k' ok).run P w = .ok v' w ∧ VR κ v v' := by
  have hent : ∃ es' : Array MapEntry, ERs κ es es'.toList ∧ ((m' = .map none ∧ es' = #[]) ∨ ∃ r clock, m' = .map (some r) ∧ w.heap[r]? = some (.map es' clock)) := by
    cases rm with
    | mapNil =>
      simp only [mapEs, Option.some.injEq] at hes; subst hes
      exact ⟨#[], ⟨rfl, fun i e e' a => by simp at a⟩, .inl ⟨rfl, rfl⟩⟩
    | map r hrd =>
      simp only [mapEs] at hes
      split at hes
      · rename_i es0 cl hob
        simp only [Option.some.injEq] at hes; subst hes
        obtain ⟨_, es', ho', he⟩ := map_obj H hob
        exact ⟨es', he, .inr ⟨_, _, rfl, ho'⟩⟩
      · cases hes
    | _ => simp [mapEs] at hes
  obtain ⟨es', he, hm⟩ := hent
  obtain ⟨r', hfr, hfind⟩ := findKey_ok H hk rk he hr
  have fin : ∀ qv', VR κ qv qv' → VR κ v (if ok then .tuple #[qv', .bool qb] else qv') := fun qv' hv => by
    subst e4
    cases ok with
    | true => exact (LR.cons hv (LR.cons (.bool qb) (LR.nil κ))).tuple
    | false => exact hv
  cases r with
  | none =>
    cases r' with
    | some _ => exact hfr.elim
    | none =>
      simp only [foundV, zeroOf] at hq
      cases hi : P.info? et with
      | none => rw [hi] at hq; simp at hq
      | some i =>
        rw [hi] at hq
        cases hz : i.zero with
        | none => simp only [hz] at hq; cases hq
        | some z =>
          simp only [hz] at hq
          by_cases hc : closed z = true
          · simp only [hc, if_true, Option.some.injEq, Prod.mk.injEq] at hq
            obtain ⟨rfl, rfl⟩ := hq
            refine ⟨_, ?_, fin z (VR.of_closed κ 4 z hc)⟩
            rcases hm with ⟨rfl, rfl⟩ | ⟨r, cl, rfl, ho'⟩
            · simp only [Instr.lookup, Sem.run_bind, run_underlying hd, Result.andThen_ok, Sem.run_pure, checkKey_ok hk, hfind, r_zero hi hz]
            · simp only [Instr.lookup, Sem.run_bind, run_underlying hd, Result.andThen_ok, Sem.run_pure, checkKey_ok hk, hfind, r_zero hi hz, r_getObj (P := P) ho' (by simp)]
          · simp [hc] at hq
  | some a =>
    cases r' with
    | none => exact hfr.elim
    | some a' =>
      obtain ⟨i1, v1⟩ := a
      obtain ⟨i2, v2⟩ := a'
      simp only [foundV, Option.some.injEq, Prod.mk.injEq] at hq
      obtain ⟨rfl, rfl⟩ := hq
      refine ⟨_, ?_, fin v2 hfr.2.2.2.1⟩
      rcases hm with ⟨rfl, rfl⟩ | ⟨r, cl, rfl, ho'⟩
      · simp only [Instr.lookup, Sem.run_bind, run_underlying hd, Result.andThen_ok, Sem.run_pure, checkKey_ok hk, hfind]
      · simp only [Instr.lookup, Sem.run_bind, run_underlying hd, Result.andThen_ok, Sem.run_pure, checkKey_ok hk, hfind, r_getObj (P := P) ho' (by simp)]
theorem lookup_ok (H : HR P κ h.m w) {t : TypeId} {m m' k k' v : Value} {ok : Bool} (rm : VR κ m m') (rk : VR κ k k') (e : alookup P t h m k ok = some v) :
    ∃ v', (Instr.lookup t m' k' ok).run P w = .ok v' w ∧ VR κ v v' := by
  unfold alookup at e
  split at e
  · rename_i kt et hd
    split at e
    · rename_i hk
      split at e
      · rename_i es hes
        split at e
        · rename_i r hr
          split at e
          · rename_i qv qb hq
            simp only [Option.some.injEq] at e
            exact lookup_ok' H rm rk hd hk hes hr hq e
          · cases e
        · cases e
      · cases e
    · cases e
  · cases e
end
end Ex
end Go.Proofs.YtgbladpoglhleaaGreatDoor
