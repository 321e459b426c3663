/- A row of operations whose order is drawn: a step. No condition. -/
import Derived.Test.YtgbladpoglhleaaGreatDoorRun16
namespace Go.Proofs.YtgbladpoglhleaaGreatDoor
namespace Ex
section
variable {P : Program} {ro : Nat} {X C : Hook} {ev : Option Nat → Nat → Code → St → Option (Ex × St)}
variable {ops : Array Oper} {nt : Nat} {all : List (Nat × Oper × Nat)} {m0 : Tr AO} {ts0 : TS} {c0 cE : Nat} {wl0 wlE dl : List Nat} {recs : List Rec}
def addS (S : Nat → Bool) (j : Nat) (x : Nat) : Bool := S x || decide (x = j)
theorem draw_step (D : Drawn P ro X C ev ops nt all m0 ts0 c0 cE wl0 wlE recs) (hF : Fit P) (hX : XOk P ro X) (hE : EvOk P ro ev) (hC : COk P ro C) {r : Rec} (hrm : r ∈ recs) {S : Nat → Bool}
    (hS : ∀ k ∈ recs, S k.j = true → ∀ x, k.pre.testBit x = true → S x = true) (hr : S r.j = false) (hp : ∀ x, r.pre.testBit x = true → S x = true) {κ0 κ : K} {a : Act} {w0 w : World}
    (I : Inv P ro nt m0 ts0 wlE wl0 dl recs κ0 w0 S κ a w) (hfree : Free κ0 c0 cE) {rr : Option Nat} {Q : Exit → Act → World → Prop} {m : Nat} {next : Act → World → Prop}
    (k : ∀ κ' v' w', Inv P ro nt m0 ts0 wlE wl0 dl recs κ0 w0 (addS S r.j) κ' (a.put r.o.dst v') w' → next (a.put r.o.dst v') w') : wpOpIn (FW rr) m P ops Q r.j next a w := by
  obtain ⟨E, post, hs⟩ := List.append_of_mem hrm
  obtain ⟨F, hc0⟩ := D.facts E r post hs
  obtain ⟨sub1, sub2, sub3⟩ := D.sub hF hX hE hC hs hS hr hp
  have hup := D.up hF hX hE hC hs
  obtain ⟨hap1, hap2⟩ := D.apart hs
  obtain ⟨_, hop⟩ := oper_ok hF hX hE hC F.run
  generalize hmr : (cond (pureOp r.o.op) .leaf (hide r.pre (memT (fun _ => true) m0 E) (segsOf E.reverse)) : Tr AO) = mr at hop sub1
  have hfr : Free κ r.lo r.h'.c := fun i h1 h2 hd => by
    rcases I.dom i hd with q | ⟨x, hx, hSx, q1, q2⟩
    · exact hfree i (by omega) (by have := D.cs r hrm; omega) q
    · rw [hs] at hx
      rcases List.mem_append.1 hx with q | q
      · have := F.above x q; omega
      · rcases List.mem_cons.1 q with rfl | q
        · rw [hr] at hSx; cases hSx
        · have := D.later hs x q; omega
  refine hop κ rr a w next Q m r.j (D.is r hrm) ⟨fun i hi => ?_, fun i hi => by simp at hi⟩ (I.hr.sub fun i o h => (sub1 i o h).1) (fun t v hv => I.tr t v (sub2 t v hv)) hfr fun v' w' hc => ?_
  · obtain ⟨o, ho⟩ := Option.isSome_iff_exists.1 hi
    exact (sub1 i o ho).2
  obtain ⟨κ', H', G, V⟩ := hc
  have hS' : ∀ x, x ∈ recs → x ≠ r → ranB (addS S r.j) x = ranB S x := fun x hx hne => by
    unfold ranB addS
    have : x.j ≠ r.j := fun q => hne (D.one hrm hx q)
    simp [this]
  have hSr : ranB (addS S r.j) r = true := by unfold ranB addS; simp
  have gt : ∀ i, r.touch i → (memT (ranB (addS S r.j)) m0 recs).get i = r.h'.m.get i := fun i ht => by
    rw [hs, memT_append]
    simp only [memT]
    rw [hSr, cond_true, memT_none post _ fun x hx htx => ?_]
    · exact over_t ht _
    · rw [hS' x (by rw [hs]; simp [hx]) (fun q => hap2 x hx (by rw [q]))]
      cases hSx : S x.j with
      | false => exact hSx
      | true => exact absurd htx (sub3 x hx hSx i ht)
  have gn : ∀ i, ¬r.touch i → (memT (ranB (addS S r.j)) m0 recs).get i = (memT (ranB S) m0 recs).get i := fun i ht => by
    refine memT_congr recs _ _ (fun x hx htx => ?_) rfl
    exact hS' x hx fun q => ht (q ▸ htx)
  -- what lay in the operation's memory and was not touched lies there as it did
  have keep : ∀ i o, mr.get i = some o → ¬r.touch i → r.h'.m.get i = some o := fun i o h ht => by
    have hd := (I.hr.obj i o (sub1 i o h).1).1
    rw [G.same i hd fun q => ht (.inl q)]; exact h
  have dom_touch : ∀ i, κ.dom i → r.touch i → i ∈ r.h'.wl := fun i hd ht => by
    rcases ht with q | q
    · exact q
    · exact absurd hd (hfr i q.1 q.2)
  have hlt : ∀ i o, (memT (ranB S) m0 recs).get i = some o → κ.p i < w.heap.size := fun i o h => by
    obtain ⟨_, o1, h1, _⟩ := I.hr.obj i o h
    exact (Array.getElem?_eq_some_iff.1 h1).1
  have inj' : ∀ a b, ((memT (ranB (addS S r.j)) m0 recs).get a).isSome → ((memT (ranB (addS S r.j)) m0 recs).get b).isSome → r.touch a → ¬r.touch b → κ'.p a = κ'.p b → a = b := by
    intro a b ha hb hta htb e
    rw [gt a hta] at ha
    rw [gn b htb] at hb
    obtain ⟨y, hy⟩ := Option.isSome_iff_exists.1 hb
    have hdb := (I.hr.obj b y hy).1
    cases hm : mr.get b with
    | some z => exact H'.inj a b ha (by rw [keep b z hm htb]; rfl) e
    | none =>
      rw [G.ext.p b hdb] at e
      rcases G.fresh a ha with q | q | ⟨x, hx, hdx, hsx, hzx, ex⟩
      · have h1 := G.old a q ha
        obtain ⟨z, hz⟩ := Option.isSome_iff_exists.1 h1
        rw [G.ext.p a q] at e
        exact I.hr.inj a b (by rw [(sub1 a z hz).1]; rfl) (by rw [hy]; rfl) e
      · have := hlt b y hy; omega
      · obtain ⟨z, hz⟩ := Option.isSome_iff_exists.1 hsx
        have : x = b := I.hr.inj x b (by rw [(sub1 x z hz).1]; rfl) (by rw [hy]; rfl) (by rw [← ex, e])
        subst this
        simp only at hz
        rw [hm] at hz; cases hz
  have HR' : HR P κ' (memT (ranB (addS S r.j)) m0 recs) w' := by
    refine ⟨fun i o hi => ?_, fun a b ha hb e => ?_, H'.glob⟩
    · by_cases ht : r.touch i
      · rw [gt i ht] at hi; exact H'.obj i o hi
      · rw [gn i ht] at hi
        obtain ⟨hd, o1, h1, h2⟩ := I.hr.obj i o hi
        cases hm : mr.get i with
        | some z =>
          have := (sub1 i z hm).1
          rw [hi] at this; cases this
          exact H'.obj i o (keep i o hm ht)
        | none =>
          refine ⟨G.ext.dom i hd, o1, ?_, h2.ext G.ext hd⟩
          rw [G.ext.p i hd, G.frame (κ.p i) (hlt i o hi) fun x hx hsx q => ?_]
          · exact h1
          · obtain ⟨z, hz⟩ := Option.isSome_iff_exists.1 hsx
            have : x = i := I.hr.inj x i (by rw [(sub1 x z hz).1]; rfl) (by rw [hi]; rfl) q
            subst this
            simp only at hz
            rw [hm] at hz; cases hz
    · by_cases hta : r.touch a <;> by_cases htb : r.touch b
      · rw [gt a hta] at ha; rw [gt b htb] at hb; exact H'.inj a b ha hb e
      · exact inj' a b ha hb hta htb e
      · exact (inj' b a hb ha htb hta e.symm).symm
      · rw [gn a hta] at ha; rw [gn b htb] at hb
        obtain ⟨x, hx⟩ := Option.isSome_iff_exists.1 ha
        obtain ⟨y, hy⟩ := Option.isSome_iff_exists.1 hb
        rw [G.ext.p a (I.hr.obj a x hx).1, G.ext.p b (I.hr.obj b y hy).1] at e
        exact I.hr.inj a b ha hb e
  have core : Core ro κ κ' (memT (ranB S) m0 recs) (memT (ranB (addS S r.j)) m0 recs) wlE wlE w w' := by
    refine ⟨G.ext, G.size, G.os, G.tape, G.output, fun b hb hn => ?_, fun i hi => ?_, fun i hd hi => ?_, fun i hd hn => ?_, fun _ h => h⟩
    · refine G.frame b hb fun i hro hsi => ?_
      obtain ⟨z, hz⟩ := Option.isSome_iff_exists.1 hsi
      exact hn i hro (by rw [(sub1 i z hz).1]; rfl)
    · by_cases ht : r.touch i
      · rw [gt i ht] at hi
        rcases G.fresh i hi with q | q | ⟨x, hx, hdx, hsx, hzx, ex⟩
        · exact .inl q
        · exact .inr (.inl q)
        · obtain ⟨z, hz⟩ := Option.isSome_iff_exists.1 hsx
          refine .inr (.inr ⟨x, hx, hdx, by rw [(sub1 x z hz).1]; rfl, ?_, ex⟩)
          have htx : r.touch x := by
            by_cases q : r.touch x
            · exact q
            · rw [keep x z hz q] at hzx; cases hzx
          rw [gt x htx]; exact hzx
      · rw [gn i ht] at hi
        obtain ⟨x, hx⟩ := Option.isSome_iff_exists.1 hi
        exact .inl (I.hr.obj i x hx).1
    · by_cases ht : r.touch i
      · rw [gt i ht] at hi
        have h1 := G.old i hd hi
        obtain ⟨z, hz⟩ := Option.isSome_iff_exists.1 h1
        rw [(sub1 i z hz).1]; rfl
      · rw [gn i ht] at hi; exact hi
    · refine gn i fun ht => hn (D.wls r hrm i (dom_touch i hd ht))
  refine k κ' v' w' ⟨HR', ?_, ?_, ?_, I.core.trans core, fun i hi => ?_⟩
  · intro t v hv
    by_cases ht : r.o.dst = some t
    · have hval : (tsT (ranB (addS S r.j)) ts0 recs).get t = some r.v := by
        rw [hs, tsT_append]
        simp only [tsT]
        rw [hSr, cond_true, tsT_none post _ fun x hx hdx => ?_]
        · rw [putO_get, if_pos ht]
        · exfalso
          exact hap2 x hx (D.dsts x (by rw [hs]; simp [hx]) r hrm t hdx ht)
      rw [hval] at hv; cases hv
      have hlt2 : t < a.tmps.size := by rw [I.nt]; exact F.dst t ht
      simp [Act.put, ht, Array.getD, hlt2, V]
    · have hval : (tsT (ranB (addS S r.j)) ts0 recs).get t = (tsT (ranB S) ts0 recs).get t := by
        refine tsT_congr recs _ _ (fun x hx hdx => ?_) rfl
        exact hS' x hx fun q => ht (q ▸ hdx)
      rw [hval] at hv
      have e2 : (a.put r.o.dst v').tmps.getD t undef = a.tmps.getD t undef := by
        cases hd : r.o.dst with
        | none => rfl
        | some d =>
          have hne : d ≠ t := fun q => ht (by rw [hd, q])
          simp only [Act.put, Array.getD_eq_getD_getElem?]
          rw [Array.getElem?_setIfInBounds_ne hne]
      rw [e2]; exact (I.tr t v hv).ext G.ext
  · cases hd : r.o.dst with
    | none => exact I.nt
    | some d => simp [Act.put, I.nt]
  · have : (a.put r.o.dst v').defers = a.defers := by cases r.o.dst <;> rfl
    rw [this]; exact I.dr.ext G.ext
  · rcases G.new i hi with q | q
    · rcases I.dom i q with q | ⟨x, hx, hSx, q⟩
      · exact .inl q
      · exact .inr ⟨x, hx, by unfold addS; rw [hSx]; rfl, q⟩
    · exact .inr ⟨r, hrm, by unfold addS; simp, q⟩
end
end Ex
end Go.Proofs.YtgbladpoglhleaaGreatDoor
