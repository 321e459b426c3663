/- A row of operations, its order drawn or not. No condition. -/
import Derived.Test.YtgbladpoglhleaaGreatDoorRun17
namespace Go.Proofs.YtgbladpoglhleaaGreatDoor
namespace Ex
section
variable {P : Program} {ro : Nat} {X C : Hook} {ev : Option Nat → Nat → Code → St → Option (Ex × St)}
theorem count_step (S : Nat → Bool) (i : Nat) (hi : S i = false) : ∀ l : List Nat, l.Nodup → l.countP (addS S i) = l.countP S + (if i ∈ l then 1 else 0)
  | [], _ => rfl
  | x :: xs, hn => by
    have hnx := List.nodup_cons.1 hn
    have ih := count_step S i hi xs hnx.2
    rw [List.countP_cons, List.countP_cons, ih]
    by_cases hx : x = i
    · subst hx
      have h1 : addS S x x = true := by simp [addS]
      rw [if_neg hnx.1]
      simp [h1, hi]
    · have h1 : addS S i x = S x := by simp [addS, hx]
      rw [h1]
      by_cases hm : i ∈ xs
      · simp [hm]; omega
      · simp [hm, Ne.symm hx]
theorem first_not {S : Nat → Bool} : ∀ (recs : List Rec), (∃ r ∈ recs, S r.j = false) → ∃ E r post, recs = E ++ r :: post ∧ (∀ k ∈ E, S k.j = true) ∧ S r.j = false
  | [], h => by obtain ⟨r, hr, _⟩ := h; simp at hr
  | x :: xs, h => by
    cases hx : S x.j with
    | false => exact ⟨[], x, xs, rfl, fun k hk => by simp at hk, hx⟩
    | true =>
      obtain ⟨E, r, post, h1, h2, h3⟩ := first_not xs (by
        obtain ⟨r, hr, hs⟩ := h
        rcases List.mem_cons.1 hr with rfl | hr
        · rw [hx] at hs; cases hs
        · exact ⟨r, hr, hs⟩)
      exact ⟨x :: E, r, post, by rw [h1]; rfl, fun k hk => by
        rcases List.mem_cons.1 hk with rfl | hk
        · exact hx
        · exact h2 k hk, h3⟩
theorem memT_all {p q : Rec → Bool} : ∀ (rs : List Rec) (m : Tr AO), (∀ r ∈ rs, p r = q r) → memT p m rs = memT q m rs
  | [], _, _ => rfl
  | r :: rs, m, h => by simp only [memT]; rw [h r List.mem_cons_self]; exact memT_all rs _ fun x hx => h x (List.mem_cons_of_mem _ hx)
theorem tsT_all {p q : Rec → Bool} : ∀ (rs : List Rec) (m : TS), (∀ r ∈ rs, p r = q r) → tsT p m rs = tsT q m rs
  | [], _, _ => rfl
  | r :: rs, m, h => by simp only [tsT]; rw [h r List.mem_cons_self]; exact tsT_all rs _ fun x hx => h x (List.mem_cons_of_mem _ hx)
variable {ops : Array Oper} {nt : Nat} {all : List (Nat × Oper × Nat)} {m0 : Tr AO} {ts0 : TS} {c0 cE : Nat} {wl0 wlE dl : List Nat} {recs : List Rec}
def listS (listed : Array Bool) (i : Nat) : Bool := listed.getD i false
theorem ready_mem {listed : Array Bool} {i : Nat} (hsz : listed.size = ops.size) : i ∈ Region.ready .any ops listed ↔ ∃ o, ops[i]? = some o ∧ listS listed i = false ∧ ∀ e ∈ o.after.toList, Region.binds .any e = true → listS listed e.on = true := by
  unfold Region.ready
  rw [List.mem_filter, List.mem_range]
  constructor
  · rintro ⟨hi, h⟩
    simp only [Bool.and_eq_true, Bool.not_eq_true', Array.getElem?_eq_getElem hi, Option.map_some, Option.getD_some] at h
    refine ⟨ops[i], Array.getElem?_eq_getElem hi, ?_, fun e he hb => ?_⟩
    · have : i < listed.size := by omega
      have h1 := h.1
      simp only [listS, Array.getD, this, dif_pos] at h1 ⊢
      exact h1
    · have h2 := h.2
      rw [← Array.all_toList, List.all_eq_true] at h2
      have := h2 e he
      rw [hb] at this
      simp only [Bool.not_true, Bool.false_or] at this
      exact this
  · rintro ⟨o, ho, h1, h2⟩
    have hi : i < ops.size := (Array.getElem?_eq_some_iff.1 ho).1
    refine ⟨hi, ?_⟩
    have : i < listed.size := by omega
    rw [ho]
    simp only [Bool.and_eq_true, Bool.not_eq_true', Option.map_some, Option.getD_some]
    refine ⟨?_, ?_⟩
    · simp only [listS, Array.getD, this, dif_pos] at h1 ⊢
      exact h1
    · rw [← Array.all_toList, List.all_eq_true]
      intro e he
      cases hb : Region.binds .any e with
      | false => rfl
      | true => simp only [Bool.not_true, Bool.false_or]; exact h2 e he hb
theorem listS_set {listed : Array Bool} {i : Nat} (hi : i < listed.size) : listS (listed.setIfInBounds i true) = addS (listS listed) i := by
  funext x
  unfold listS addS
  simp only [Array.getD_eq_getD_getElem?]
  by_cases h : x = i
  · subst h; simp [hi]
  · rw [Array.getElem?_setIfInBounds_ne (Ne.symm h)]; simp [h]
theorem draw_all (D : Drawn P ro X C ev ops nt all m0 ts0 c0 cE wl0 wlE recs) (hF : Fit P) (hX : XOk P ro X) (hE : EvOk P ro ev) (hC : COk P ro C) {κ0 : K} {w0 : World} (hfree : Free κ0 c0 cE) {rr : Option Nat} {Q : Exit → Act → World → Prop} {m : Nat}
    (fin : ∀ κ a w, Inv P ro nt m0 ts0 wlE wl0 dl recs κ0 w0 (fun _ => true) κ a w → Q .normal a w) :
    ∀ (fuel : Nat) (listed : Array Bool) κ a w, listed.size = ops.size → ops.size ≤ (List.range ops.size).countP (listS listed) + fuel → (∀ k ∈ recs, listS listed k.j = true → ∀ x, k.pre.testBit x = true → listS listed x = true) →
      Inv P ro nt m0 ts0 wlE wl0 dl recs κ0 w0 (listS listed) κ a w → wpAnyIn (FW rr) m P .any ops Q fuel listed a w := by
  have done : ∀ listed κ a w, (∀ r ∈ recs, listS listed r.j = true) → Inv P ro nt m0 ts0 wlE wl0 dl recs κ0 w0 (listS listed) κ a w → Q .normal a w := by
    intro listed κ a w hall I
    refine fin κ a w ?_
    have h1 : ∀ r ∈ recs, ranB (listS listed) r = ranB (fun _ => true) r := fun r hr => hall r hr
    refine ⟨?_, ?_, I.nt, I.dr, ?_, fun i hi => ?_⟩
    · rw [← memT_all recs m0 h1]; exact I.hr
    · rw [← tsT_all recs ts0 h1]; exact I.tr
    · rw [← memT_all recs m0 h1]; exact I.core
    · rcases I.dom i hi with q | ⟨r, hr, _, q⟩
      · exact .inl q
      · exact .inr ⟨r, hr, rfl, q⟩
  have none_ready : ∀ listed : Array Bool, listed.size = ops.size → Region.ready .any ops listed = [] → ∀ r ∈ recs, listS listed r.j = true := by
    intro listed hsz hnil r hr
    cases hS : listS listed r.j with
    | true => rfl
    | false =>
      exfalso
      obtain ⟨E, x, post, hs, h2, h3⟩ := first_not recs ⟨r, hr, hS⟩
      have hx : x ∈ recs := by rw [hs]; simp
      have : x.j ∈ Region.ready .any ops listed := by
        rw [ready_mem hsz]
        refine ⟨x.o, D.is x hx, h3, fun e he hb => ?_⟩
        obtain ⟨k, hk, hkj⟩ := (D.facts E x post hs).1.ahead e.on (D.bound x hx e he hb)
        rw [← hkj]; exact h2 k hk
      rw [hnil] at this; simp at this
  intro fuel
  induction fuel with
  | zero =>
    intro listed κ a w hsz hcnt hcl I
    have hall : ∀ r ∈ recs, listS listed r.j = true := fun r hr => by
      have h1 := List.countP_le_length (p := listS listed) (l := List.range ops.size)
      rw [List.length_range] at h1
      have h2 : (List.range ops.size).countP (listS listed) = (List.range ops.size).length := by rw [List.length_range]; omega
      rw [List.countP_eq_length] at h2
      have hlt : r.j < ops.size := (Array.getElem?_eq_some_iff.1 (D.is r hr)).1
      exact h2 r.j (List.mem_range.2 hlt)
    refine ⟨?_, done listed κ a w hall I⟩
    cases hq : Region.ready .any ops listed with
    | nil => rfl
    | cons i is =>
      exfalso
      have : i ∈ Region.ready .any ops listed := by rw [hq]; simp
      rw [ready_mem hsz] at this
      obtain ⟨o, ho, hS, _⟩ := this
      obtain ⟨r, hr, hj⟩ := D.every i o ho
      rw [← hj, hall r hr] at hS; cases hS
  | succ fuel ih =>
    intro listed κ a w hsz hcnt hcl I
    refine ⟨fun hnil => done listed κ a w (none_ready listed hsz hnil) I, fun i hi => ?_⟩
    rw [ready_mem hsz] at hi
    obtain ⟨o, ho, hS, hedge⟩ := hi
    obtain ⟨r, hr, hj⟩ := D.every i o ho
    have hro := D.is r hr
    rw [hj] at hro
    rw [ho] at hro
    cases hro
    have hlt : i < listed.size := by rw [hsz]; exact (Array.getElem?_eq_some_iff.1 ho).1
    have hpre : ∀ x, r.pre.testBit x = true → listS listed x = true := fun x hx => by
      obtain ⟨e, he, hb, q⟩ := D.edges r hr x hx
      have hon := hedge e he hb
      rcases q with rfl | ⟨k, hk, hkj, hkx⟩
      · exact hon
      · exact hcl k hk (by rw [hkj]; exact hon) x hkx
    rw [← hj]
    refine draw_step D hF hX hE hC hr hcl (by rw [hj]; exact hS) hpre I hfree fun κ' v' w' I' => ?_
    rw [hj] at I' ⊢
    rw [← listS_set hlt] at I'
    refine ih _ κ' _ w' (by simp [hsz]) ?_ (fun k hk hSk x hx => ?_) I'
    · rw [listS_set hlt, count_step _ i hS _ List.nodup_range, if_pos (List.mem_range.2 (by omega))]
      omega
    · rw [listS_set hlt] at hSk ⊢
      unfold addS at hSk ⊢
      rw [Bool.or_eq_true] at hSk ⊢
      rcases hSk with q | q
      · exact .inl (hcl k hk q x hx)
      · have hki : k.j = i := by simpa using q
        have : k = r := D.one hr hk (by rw [hki, hj])
        subst this
        exact .inl (hpre x hx)
theorem draw_c (hF : Fit P) (hX : XOk P ro X) (hE : EvOk P ro ev) (hC : COk P ro C) {aops : Array Oper} {nt : Nat} {all : List (Nat × Oper × Nat)} {pm : Nat} :
    ∀ (L : List (Nat × Oper × Nat)) (done : Nat) (segs : List Seg) (st st' : St), adraw P ro X ev C aops.toList nt all pm L done segs st = some st' → st.h.c ≤ st'.h.c
  | [], done, segs, st, st', e => by simp only [adraw, Option.some.injEq] at e; subst e; exact Nat.le_refl _
  | (j, o, pre) :: os, done, segs, st, st', e => by
    unfold adraw at e
    cases h1 : (within pre done && !Nat.testBit done j) with
    | false => rw [h1] at e; cases e
    | true =>
      rw [h1, cond_true] at e
      split at e
      · rename_i v h' hop
        split at e
        · cases h2 : (cond (pureOp o.op) (isNil h'.wl && Nat.beq h'.c st.h.c) (isNil h'.wl || within done (Nat.lor pre pm))) with
          | false => rw [h2] at e; cases e
          | true =>
            rw [h2, cond_true] at e
            have h3 := (oper_ok hF hX hE hC hop).1.1
            have h4 := draw_c hF hX hE hC os _ _ _ st' e
            exact Nat.le_trans h3 h4
        · cases e
      · cases e
theorem memT_zero {p : Rec → Bool} : ∀ (rs : List Rec) (m : Tr AO), (∀ r ∈ rs, p r = false) → memT p m rs = m
  | [], _, _ => rfl
  | r :: rs, m, h => by simp only [memT]; rw [h r List.mem_cons_self, cond_false]; exact memT_zero rs m fun x hx => h x (List.mem_cons_of_mem _ hx)
theorem tsT_zero {p : Rec → Bool} : ∀ (rs : List Rec) (m : TS), (∀ r ∈ rs, p r = false) → tsT p m rs = m
  | [], _, _ => rfl
  | r :: rs, m, h => by simp only [tsT]; rw [h r List.mem_cons_self, cond_false]; exact tsT_zero rs m fun x hx => h x (List.mem_cons_of_mem _ hx)
/-- A ROW OF OPERATIONS WHOSE ORDER IS DRAWN. -/
theorem draw_ok (hF : Fit P) (hX : XOk P ro X) (hE : EvOk P ro ev) (hC : COk P ro C) {st st' : St} (e : aregion P ro X ev C ops.toList nt true st = some st') : Up st.h st'.h ∧
    ∀ κ rr (a : Act) w (Q : Exit → Act → World → Prop) m id, WF st.h → HR P κ st.h.m w → TR κ st.ts a.tmps → a.tmps.size = nt → DR κ st.dl a.defers → Free κ st.h.c st'.h.c →
      (∀ κ' (a' : Act) w', HR P κ' st'.h.m w' → Gone ro κ κ' st.h st'.h w w' → TR κ' st'.ts a'.tmps → a'.tmps.size = nt → DR κ' st'.dl a'.defers → Q .normal a' w') → (Code.region id ops true).wpIn (FW rr) m P Q a w := by
  unfold aregion at e
  simp only [if_true] at e
  split at e
  · rename_i pres hpres
    split at e
    · rename_i hnd
      have hcc := draw_c hF hX hE hC _ _ _ _ _ e
      have facts := fun W : WF st.h => draw_facts hF hX hE hC (ops := ops.toList) (aops := ops) rfl W.1 _ 0 [] st st' e W rfl rfl (fun x => by simp) (fun k hk => by simp at hk) (Nat.le_refl _) (fun k hk => by simp at hk)
      refine ⟨⟨hcc, fun W => ?_⟩, fun κ rr a w Q m id W H T hn D hf kk => ?_⟩
      · obtain ⟨recs, _, _, _, _, _, _, _, _, g9⟩ := facts W
        exact g9.2 W
      obtain ⟨recs, g1, g2, g3, g4, g5, g6, g7, g8, g9⟩ := facts W
      obtain ⟨_, hplen, hpi⟩ := presOf_spec hpres
      have hmem : ∀ r ∈ recs, ops[r.j]? = some r.o ∧ pres[r.j]? = some r.pre := fun r hr => by
        have h1 : (r.j, r.o, r.pre) ∈ recs.map (fun r => (r.j, r.o, r.pre)) := List.mem_map.2 ⟨r, hr, rfl⟩
        rw [g1, sched_mem, zip3_mem] at h1
        obtain ⟨n, h2, h3, h4⟩ := h1
        simp only [Nat.zero_add] at h2 h3 h4
        subst h2
        rw [Array.getElem?_toList] at h3
        exact ⟨h3, h4⟩
      have hev : ∀ (i : Nat) o, ops[i]? = some o → ∃ r ∈ recs, r.j = i := fun i o ho => by
        rw [← Array.getElem?_toList] at ho
        obtain ⟨q, h1, h2⟩ := hpi i o ho
        simp only [List.length_nil, Nat.zero_add] at h1 h2
        have : (i, o, q) ∈ recs.map (fun r => (r.j, r.o, r.pre)) := by
          rw [g1, sched_mem, zip3_mem]
          exact ⟨i, by simp, ho, h1⟩
        obtain ⟨r, hr, he⟩ := List.mem_map.1 this
        simp only [Prod.mk.injEq] at he
        exact ⟨r, hr, he.1⟩
      have hspec : ∀ r ∈ recs, preOf (pres.take r.j) r.o.after.toList = some r.pre := fun r hr => by
        obtain ⟨h1, h2⟩ := hmem r hr
        rw [← Array.getElem?_toList] at h1
        obtain ⟨q, h3, h4⟩ := hpi r.j r.o h1
        simp only [List.length_nil, Nat.zero_add] at h3 h4
        rw [h2] at h3; cases h3
        exact h4
      have DD : Drawn P ro X C ev ops nt (sched ops.toList.length 0 (zip3 0 ops.toList pres)) st.h.m st.ts st.h.c st'.h.c st.h.wl st'.h.wl recs := by
        refine ⟨fun E r post hs => by simpa using g2 E r post hs, fun r hr => (hmem r hr).1, hev, fun r hr => ?_, fun r hr x hx => ?_, fun r hr e he hb => (preOf_spec (hspec r hr)).2 e he hb, fun r hr k hk d hd hd' => ?_, W.1, g7, g6, fun r hr => (g8 r hr).1⟩
        · rw [← g1]; exact List.mem_map.2 ⟨r, hr, rfl⟩
        · obtain ⟨e, he, hb, p, hp, q⟩ := (preOf_spec (hspec r hr)).1 x hx
          refine ⟨e, he, hb, ?_⟩
          rcases q with q | q
          · exact .inl q
          · rw [List.getElem?_take] at hp
            split at hp
            · have hlt := (List.getElem?_eq_some_iff.1 hp).1
              simp only [List.length_nil, Nat.zero_add] at hplen
              rw [hplen] at hlt
              have hlt' : e.on < ops.size := by simpa using hlt
              obtain ⟨k, hk, hkj⟩ := hev e.on _ (Array.getElem?_eq_getElem hlt')
              have := (hmem k hk).2
              rw [hkj, hp] at this
              exact .inr ⟨k, hk, hkj, by cases this; exact q⟩
            · cases hp
        · have h1 := (hmem r hr).1
          have h2 := (hmem k hk).1
          rw [← Array.getElem?_toList] at h1 h2
          exact dsts_nodup hnd r.j k.j r.o k.o d h1 h2 hd hd'
      refine wpIn_region_any hF.mixed ?_
      have hz : ∀ i, listS (Array.replicate ops.size false) i = false := fun i => by
        unfold listS
        simp only [Array.getD_eq_getD_getElem?, Array.getElem?_replicate]
        split <;> rfl
      refine draw_all DD hF hX hE hC (dl := st.dl) (κ0 := κ) (w0 := { w with drawn := w.drawn + 1 }) hf ?_ ops.size _ κ a _ (by simp) (by omega) (fun k _ hSk => by rw [hz] at hSk; cases hSk) ?_
      · intro κ' a' w' I
        have e1 : memT (ranB fun _ => true) st.h.m recs = st'.h.m := by rw [g3]; rfl
        have e2 : tsT (ranB fun _ => true) st.ts recs = st'.ts := by rw [g4]; rfl
        refine kk κ' a' w' (by rw [← e1]; exact I.hr) ?_ (by rw [← e2]; exact I.tr) I.nt (by rw [g5]; exact I.dr)
        have c := I.core
        rw [e1] at c
        refine ⟨hcc, c.ext, fun i hi => ?_, c.size, c.os, c.tape, c.output, c.frame, c.fresh, c.old, c.same, c.wle⟩
        rcases I.dom i hi with q | ⟨r, hr, _, q1, q2⟩
        · exact .inl q
        · have := g8 r hr
          exact .inr ⟨by omega, by omega⟩
      · have hzz : ∀ r ∈ recs, ranB (listS (Array.replicate ops.size false)) r = false := fun r _ => hz r.j
        refine ⟨?_, ?_, hn, D, ?_, fun i hi => .inl hi⟩
        · rw [memT_zero recs _ hzz]; exact H.world rfl
        · rw [tsT_zero recs _ hzz]; exact T
        · rw [memT_zero recs _ hzz]
          exact ⟨Ext.refl κ, Nat.le_refl _, rfl, rfl, rfl, fun _ _ _ => rfl, fun i hi => by
            obtain ⟨o, ho⟩ := Option.isSome_iff_exists.1 hi
            exact .inl (H.obj i o ho).1, fun _ _ h => h, fun _ _ _ => rfl, g6⟩
    · cases e
  · cases e
end
end Ex
end Go.Proofs.YtgbladpoglhleaaGreatDoor
