/- The reference's four and Encode walked. No condition. -/
import Derived.Test.YtikgdhmnnnicmaaDoorB
import Derived.StillTail
import Derived.Deep.Quiet
import Derived.Test.YtikgdhmnnnicmaaDoorRm
import Derived.Test.YtikgdhmnnnicmaaDoorEn
namespace Go.Proofs.YtikgdhmnnnicmaaDoor
section
open Go
variable {P : Program} {md : Region.Mode} {ops : Array Oper} {C : World → Prop}
/-- Whatever order is picked of the first n operations, in every world of the class. -/
def wpAnyT (P : Program) (md : Region.Mode) (ops : Array Oper) (C : World → Prop) (n : Nat) (L : Array Bool → Act → Prop) : Nat → Array Bool → Act → Prop
  | 0, listed, a => L listed a
  | f + 1, listed, a => Region.ready md ops listed ≠ [] ∧ ∀ i ∈ Region.ready md ops listed, i < n ∧ qOp P ops C i (wpAnyT P md ops C n L f (listed.setIfInBounds i true)) a
theorem wpAny_of_front {n g : Nat} {L : Array Bool → Act → Prop} {Q' : Exit → Act → World → Prop} (hL : ∀ listed a w, C w → L listed a → wpAny P md ops Q' g listed a w) :
    ∀ (f : Nat) (listed : Array Bool) (a : Act) (w : World), C w → wpAnyT P md ops C n L f listed a → wpAny P md ops Q' (f + g) listed a w
  | 0, listed, a, w, hw, h => by rw [Nat.zero_add]; exact hL _ _ _ hw h
  | f + 1, listed, a, w, hw, h => by
    rw [show f + 1 + g = (f + g) + 1 by omega]
    exact ⟨fun h0 => absurd h0 h.1, fun i hi => wpOp_of_qOp hw (fun a' w' hw' h' => wpAny_of_front hL f _ a' w' hw' h') (h.2 i hi).2⟩
/-- Each operation from m on, up to n, is waited for by one up to n. -/
def sinkFrom (md : Region.Mode) (ops : Array Oper) (m n : Nat) : Bool :=
  (List.range n).all fun i => decide (i < m) || (List.range (n + 1)).any fun j => decide (i < j) && Region.waitsFor md ops j i
theorem tail_waits_from {m n : Nat} {listed : Array Bool} (hs : sinkFrom md ops m n = true) (hc : Region.chainB md ops n = true) (hn : n < ops.size) (inv : HeadInv md ops n listed) :
    ∀ (d i : Nat), n - i = d → m ≤ i → i < n → listed.getD i true = false → ∀ t, n ≤ t → t ∉ Region.ready md ops listed := by
  intro d
  induction d using Nat.strongRecOn with
  | _ d ih =>
    intro i hd hmi hi hun t ht hr
    obtain ⟨_, ot, hot, hall⟩ := mem_ready.1 hr
    have htlt : t < ops.size := (Array.getElem?_eq_some_iff.1 hot).1
    by_cases htn : t = n
    · subst htn
      have h1 := List.all_eq_true.1 hs i (List.mem_range.2 hi)
      rw [Bool.or_eq_true, decide_eq_true_eq] at h1
      rcases h1 with h1 | h1
      · omega
      obtain ⟨j, hj, hj2⟩ := List.any_eq_true.1 h1
      simp only [Bool.and_eq_true, decide_eq_true_eq] at hj2
      obtain ⟨oj, hoj, e, he, hb, hon⟩ := Region.waitsFor_spec hj2.2
      have hjle : j ≤ t := by have := List.mem_range.1 hj; omega
      by_cases hjt : j = t
      · subst hjt
        have : oj = ot := Option.some.inj (hoj.symm.trans hot)
        subst this
        have h2 := hall e he hb
        rw [hon, getD_both hun] at h2
        cases h2
      · cases hl : listed.getD j false with
        | true =>
          have h2 := inv.closed j oj hoj hl e he hb
          rw [hon, getD_both hun] at h2
          cases h2
        | false =>
          have hjs : j < listed.size := by rw [inv.size]; omega
          exact ih (t - j) (by omega) j rfl (by omega) (by omega) (getD_in hjs hl) t (Nat.le_refl _) hr
    · have h1 := List.all_eq_true.1 hc t (List.mem_range.2 htlt)
      simp only [Bool.or_eq_true, decide_eq_true_eq] at h1
      rcases h1 with h1 | h1
      · omega
      · obtain ⟨o', ho', e, he, hb, hon⟩ := Region.waitsFor_spec h1
        have : o' = ot := Option.some.inj (ho'.symm.trans hot)
        subst this
        have h2 := hall e he hb
        rw [hon, getD_both (inv.tail (t - 1) (by omega) (by omega))] at h2
        cases h2
theorem wpAnyT_first {m n i : Nat} {oi : Oper} {v : Value} {L : Array Bool → Act → Prop} (hi : ops[i]? = some oi) (hsel : ∀ (j : Nat) (o : Oper) cs b, ops[j]? = some o → o.op ≠ .select cs b)
    (hs : sinkFrom md ops m n = true) (hc : Region.chainB md ops n = true) (hn : n < ops.size) (hmi : m ≤ i) (hin : i < n)
    (hdone : ∀ listed a, L listed a → ∀ j ∈ Region.ready md ops listed, n ≤ j) :
    ∀ (f : Nat) (listed : Array Bool) (a : Act), HeadInv md ops n listed →
      (∀ j oj, ops[j]? = some oj → j ≠ i → listed.getD j true = false → (∀ e ∈ oj.after, Region.binds md e = true → e.on ≠ i) → oi.apart ops oj = true) →
      i ∈ Region.ready md ops listed → YieldsIn P ops C oi v a →
      wpAnyT P md ops C n L f (listed.setIfInBounds i true) (a.put oi.dst v) → wpAnyT P md ops C n L (f + 1) listed a := by
  intro f
  induction f with
  | zero =>
    intro listed a inv _ hr hy H
    have hun := (mem_ready.1 hr).1
    refine ⟨fun h => (by rw [h] at hr; cases hr), fun j hj => ?_⟩
    have hjn : j < n := by
      rcases Nat.lt_or_ge j n with h | h
      · exact h
      · exact absurd hj (tail_waits_from hs hc hn inv _ i rfl hmi hin hun j h)
    refine ⟨hjn, ?_⟩
    by_cases hji : j = i
    · subst hji; exact hy.qOp hi H
    · have := hdone _ _ H j (ready_mono hj hji)
      omega
  | succ f ih =>
    intro listed a inv hfree hr hy H
    have hun := (mem_ready.1 hr).1
    refine ⟨fun h => (by rw [h] at hr; cases hr), fun j hj => ?_⟩
    have hjn : j < n := by
      rcases Nat.lt_or_ge j n with h | h
      · exact h
      · exact absurd hj (tail_waits_from hs hc hn inv _ i rfl hmi hin hun j h)
    refine ⟨hjn, ?_⟩
    by_cases hji : j = i
    · subst hji; exact hy.qOp hi H
    · have h1 := (H.2 j (ready_mono hj hji)).2
      obtain ⟨hjun, oj, hoj, hall⟩ := mem_ready.1 hj
      have hnot : ∀ e ∈ oj.after, Region.binds md e = true → e.on ≠ i := fun e he hb heq => by
        have h1 := hall e he hb
        rw [heq, getD_both hun] at h1
        cases h1
      have h2 := qOp_put hoj (hfree j oj hoj hji hjun hnot) (fun cs b => hsel i oi cs b hi) (fun cs b => hsel j oj cs b hoj) hy h1
      have hfree' : ∀ k ok, ops[k]? = some ok → k ≠ i → (listed.setIfInBounds j true).getD k true = false →
          (∀ e ∈ ok.after, Region.binds md e = true → e.on ≠ i) → oi.apart ops ok = true := fun k ok hk hki hun hno => by
        refine hfree k ok hk hki ?_ hno
        by_cases hjk : j = k
        · subst hjk; exact hjun
        · rw [Go.getD_set_ne true hjk] at hun; exact hun
      refine qOp_mono (fun a' h3 => ih (listed.setIfInBounds j true) a' (inv.set hj hjn) hfree' (ready_mono hr (Ne.symm hji)) h3.1 ?_) h2
      rw [Array.setIfInBounds_comm _ _ hji]
      exact h3.2
theorem wpAnyT_lex {m n g : Nat} {Lq : Act → Prop} (hsel : Region.noSelect ops = true) (hs : sinkFrom md ops m n = true) (hc : Region.chainB md ops n = true) (hn : n < ops.size) :
    ∀ (l : List Oper) (k : Nat) (listed : Array Bool) (a : Act), m ≤ k → (∀ j, j < l.length → l[j]? = ops[k + j]?) → k + l.length = n → HeadInv md ops n listed →
    Region.lexHead md ops g l.length k listed = true → wpQuiet P ops C Lq l a →
    wpAnyT P md ops C n (fun listed' a' => Region.seqB md ops g n listed' = true ∧ Lq a') l.length listed a
  | [], k, listed, a, _, _, hk, _, hB, h => by
    have : k = n := by simpa using hk
    subst this
    exact ⟨by simpa [Region.lexHead] using hB, h⟩
  | o :: l, k, listed, a, hmk, hl, hk, inv, hB, h => by
    have h0 : ops[k]? = some o := by simpa using (hl 0 (by simp)).symm
    simp only [List.length_cons, Region.lexHead, Bool.and_eq_true] at hB
    obtain ⟨⟨hr, hf⟩, hB'⟩ := hB
    have hkn : k < n := by simp only [List.length_cons] at hk; omega
    have hr' : k ∈ Region.ready md ops listed := by simpa using hr
    have hst : qOp P ops C k (wpQuiet P ops C Lq l) a := by unfold qOp; simp only [h0]; exact h
    obtain ⟨v, hy, hK⟩ := yieldsIn_of_qOp h0 hst
    exact wpAnyT_first h0 (Region.noSelect_spec hsel) hs hc hn hmk hkn (fun listed' a' hL => seqB_ready hL.1) l.length listed a inv (Region.free_spec h0 hf) hr' hy
      (wpAnyT_lex hsel hs hc hn l (k + 1) _ _ (by omega) (fun j hj => by have := hl (j + 1) (by simp; omega); simpa [Nat.add_assoc, Nat.add_comm 1 j] using this) (by simp only [List.length_cons] at hk; omega) (inv.set hr' hkn) hB' hK)
/-- May the first operation be taken first, and the next n in the text's order, and then the others, one behind the other? -/
def tailB (ops : Array Oper) (n : Nat) : Bool :=
  Region.noSelect ops && decide (n + 1 < ops.size) && sinkFrom .any ops 1 (n + 1) && Region.chainB .any ops (n + 1) && (Region.ready .any ops (Array.replicate ops.size false)).contains 0 &&
    Region.free .any ops (Array.replicate ops.size false) 0 && Region.lexHead .any ops (ops.size - (n + 1)) n 1 ((Array.replicate ops.size false).setIfInBounds 0 true)
/-- One walk in the text's order: a first operation that asks no memory, n that read or call quietly, then those that write. -/
theorem wp_region_quiet_tail {id : Nat} {Q : Exit → Act → World → Prop} {a : Act} {w : World} {o : Oper} {l : List Oper} {v : Value} (n : Nat) (hm : P.follows .mixedOrders = true) (hB : tailB (o :: l).toArray n = true)
    (hQ : ∀ c a w, Q (.panic c) (a.put o.dst v) w → Q (.panic c) a w) (hy : Yields P (o :: l).toArray o v a)
    (h : wpQuiet P (o :: l).toArray (fun w' => ∃ m, w' = w.drewN m) (fun a' => ∀ w', (∃ m, w' = w.drewN m) → wpList P (o :: l).toArray Q (l.drop n) a' w') (l.take n) (a.put o.dst v)) : (Code.region id (o :: l).toArray true).wp P Q a w := by
  simp only [tailB, Bool.and_eq_true, decide_eq_true_eq] at hB
  obtain ⟨⟨⟨⟨⟨⟨hsel, hn⟩, hs⟩, hc⟩, hr⟩, hf⟩, hlex⟩ := hB
  have hn' : n < l.length := by simpa using hn
  have htl : (l.take n).length = n := by simp; omega
  have hdl : (l.drop n).length = (o :: l).toArray.size - (n + 1) := by simp
  have hsz : (o :: l).toArray.size = l.length + 1 := by simp
  have inv0 : HeadInv .any (o :: l).toArray (n + 1) (Array.replicate (o :: l).toArray.size false) :=
    ⟨by simp, fun j oj _ hl => (by rw [getD_replicate_false] at hl; cases hl), fun t _ ht => getD_in (by simpa using ht) (getD_replicate_false _ _)⟩
  have H := wpAnyT_lex (m := 1) (md := .any) (g := (o :: l).toArray.size - (n + 1)) hsel hs hc hn (l.take n) 1 _ _ (Nat.le_refl _) (fun j hj => by
    have hj' : j < n := by rw [htl] at hj; exact hj
    rw [Nat.add_comm 1 j]
    simp [hj']) (by rw [htl]; omega) (inv0.set (by simpa using hr) (by omega)) (by rw [htl]; exact hlex) h
  refine wp_region_any hm ?_
  have := wpAny_of_front (Q' := Q) (g := (o :: l).toArray.size - (n + 1)) (fun listed a' w' hw' hL => by
    have := wpAny_of_seq (md := .any) (Q' := Q) (l.drop n) (n + 1) listed a' w' (fun j => by rw [List.getElem?_drop, show n + 1 + j = (n + j) + 1 by omega]; simp) (by rw [hdl]; exact hL.1) (hL.2 w' hw')
    rwa [hdl] at this) (l.take n).length _ (a.put o.dst v) { w with drawn := w.drawn + 1 } ⟨1, rfl⟩ H
  rw [htl, hsz] at this
  have e : l.length + 1 - (n + 1) = l.length - n := by omega
  rw [e, show n + (l.length - n) = l.length by omega] at this
  rw [hsz]
  rw [hsz] at hr hf
  exact wpAny_take (i := 0) (oi := o) (by simp) hsel hf hr hQ hy this
end
section
open Go.RowKit Go.Shelf
set_option maxHeartbeats 4000000 in
set_option maxRecDepth 100000 in
theorem refFour_any {w : World} {v : Value} {bs : List UInt8} (B : Nat) (hB : B ≤ w.heap.size) (HO : w.ownsRow B 5 1 v bs.length (u8s bs)) {x : Int} (hx0 : 0 ≤ x) (hx1 : x ≤ 4294967295) (hl : bs.length ≤ 1099511627776) :
    Calls Tryd.prog 25 #[v, .int .i64 x] w (FourPost w B v (bs ++ be4 x)) := by
  have HX := Aside.mk (u8s_be4 hx0 hx1)
  have HB := Aside.mk hB
  have HO1 := Aside.mk HO
  obtain ⟨A, m, c, hv⟩ := own_slice HO
  subst hv
  clear HO hB
  go_enter Tryd.func25, Tryd.ntmps25
  go_wp2_with (at_builtin; go_must (refine app_many B 4 rfl _ _ 28 5 (.int .u8 0) 1 1 rfl Tryd.underlying28 Tryd.infoByte rfl (by decide) (by decide) (.slice A m c) bs.length _ [.int .u8 (x / 16777216), .int .u8 (x / 65536 % 256), .int .u8 (x / 256 % 256), .int .u8 (x % 256)] rfl rfl rfl (by simp [Value.oneCell']) HO1.out HB.out (by omega) ?_; intro v1 w6 hown hg6 hat; obtain ⟨A1, m1, c1, rfl⟩ := own_slice hown; have HP : Aside (FourPost w B (.slice A m c) (bs ++ be4 x) (.returned (.slice A1 m1 c1)) w6) := ⟨_, rfl, by rw [u8s_append, HX.out, List.length_append, be4_length]; exact hown, hg6, by rcases hat with e | e; exact .inl e; exact .inr ⟨_, e, by omega⟩⟩; clear hown hg6 hat))
  go_ret
  exact HP.out
theorem chunkL_len (l : List Node) (j : Nat) : (chunkL l j).length = min 50 (l.length - 50 * j) := by simp [chunkL]
theorem chunkL_at {l : List Node} {j t : Nat} (h : t < (chunkL l j).length) : ∃ h2 : 50 * j + t < l.length, (chunkL l j)[t] = l[50 * j + t] := by
  have h3 := chunkL_len l j
  refine ⟨by omega, ?_⟩
  simp [chunkL]
set_option maxHeartbeats 8000000 in
set_option maxRecDepth 100000 in
theorem refEncode_any {w : World} {ok : Nat → Prop} {v : Value} {l : List Node} (gen n : Int) (hs : Sl knode w ok v l) (hl : l.length ≤ 16777216) : Calls Tryd.prog 9 #[.int .i64 gen, .int .i64 n, v] w (EncPost w gen n l) := by
  obtain ⟨A, c, rfl, hc, hm⟩ := hs.slice
  by_cases h1 : gen < 1
  · have f1 : decide (gen < 1) = true := decide_eq_true h1
    have HP : Aside (EncPost w gen n l (.returned (.tuple #[.slice none 0 0, .slice none 0 0, .int .i64 220])) w) := ⟨enc_no (by unfold encOk; rw [decide_eq_false (by omega)]; rfl) (Below.refl _ _)⟩
    clear hs h1
    go_enter Tryd.func9, Tryd.ntmps9
    go_wp2
    exact bodyPost_ret (by simp [results, Tryd.results9, go_sem]) rfl HP.out
  have f1 : decide (gen < 1) = false := decide_eq_false h1
  by_cases h2 : 2147483647 < gen
  · have f2 : decide (2147483647 < gen) = true := decide_eq_true h2
    have HP : Aside (EncPost w gen n l (.returned (.tuple #[.slice none 0 0, .slice none 0 0, .int .i64 220])) w) := ⟨enc_no (by unfold encOk; rw [decide_eq_false (by omega)]; rfl) (Below.refl _ _)⟩
    clear hs h1 h2
    go_enter Tryd.func9, Tryd.ntmps9
    go_wp2
    exact bodyPost_ret (by simp [results, Tryd.results9, go_sem]) rfl HP.out
  have f2 : decide (2147483647 < gen) = false := decide_eq_false h2
  by_cases h3 : n < 0
  · have f3 : decide (n < 0) = true := decide_eq_true h3
    have HP : Aside (EncPost w gen n l (.returned (.tuple #[.slice none 0 0, .slice none 0 0, .int .i64 220])) w) := ⟨enc_no (by unfold encOk; rw [decide_eq_false (by omega)]; rfl) (Below.refl _ _)⟩
    clear hs h1 h2 h3
    go_enter Tryd.func9, Tryd.ntmps9
    go_wp2
    exact bodyPost_ret (by simp [results, Tryd.results9, go_sem]) rfl HP.out
  have f3 : decide (n < 0) = false := decide_eq_false h3
  by_cases h4 : 16777216 < n
  · have f4 : decide (16777216 < n) = true := decide_eq_true h4
    have HP : Aside (EncPost w gen n l (.returned (.tuple #[.slice none 0 0, .slice none 0 0, .int .i64 220])) w) := ⟨enc_no (by unfold encOk; rw [decide_eq_false (by omega)]; rfl) (Below.refl _ _)⟩
    clear hs h1 h2 h3 h4
    go_enter Tryd.func9, Tryd.ntmps9
    go_wp2
    exact bodyPost_ret (by simp [results, Tryd.results9, go_sem]) rfl HP.out
  have f4 : decide (16777216 < n) = false := decide_eq_false h4
  have HOK : Aside (encOk gen n l = mayF n l) := ⟨by unfold encOk; rw [decide_eq_true (by omega)]; rfl⟩
  have hrg : (1 ≤ gen ∧ gen ≤ 2147483647) ∧ 0 ≤ n ∧ n ≤ 16777216 := by omega
  obtain ⟨⟨g1, g2⟩, g3, g4⟩ := hrg
  have hmay := refMay_any n hs hl
  rw [rmF_may] at hmay
  have HS := Aside.mk hs
  have HEl := Aside.mk (@may_el n l)
  have HLe := Aside.mk hl
  clear hs h1 h2 h3 h4
  generalize mayF n l = mb at *
  go_enter Tryd.func9, Tryd.ntmps9
  go_wp2_with fail
  refine hmay.mono ?_
  clear hmay
  rintro e w1 ⟨rfl, B1⟩
  have HB1 := Aside.mk B1
  clear B1
  cases mb with
  | false =>
    have HP := Aside.mk (enc_no HOK.out HB1.out)
    go_wp2
    exact bodyPost_ret (by simp [results, Tryd.results9, go_sem]) rfl HP.out
  | true =>
    have HEl2 : Aside (∀ x ∈ l, (0 ≤ x.K ∧ x.K < 16777216) ∧ (0 ≤ x.Least ∧ x.Least < n) ∧ (1 ≤ x.Size ∧ x.Size ≤ n) ∧ -1 ≤ x.Parent ∧ x.Parent < l.length) := ⟨HEl.out rfl⟩
    clear HEl
    go_wp2_with fail
    refine (refFour_any (bs := []) w1.heap.size (Nat.le_refl _) (World.ownsRow_nil _ _ _ _) (x := gen) (by omega) (by omega) (by simp)).mono ?_
    rintro e w2 ⟨v2, rfl, ho, hg, _⟩
    have HB2 := Aside.mk ((Below.refl w1.heap.size w1).grown hg (Nat.le_refl _) fun q e => by cases e)
    have HR2 := Aside.mk ho
    obtain ⟨A2, m2, c2, rfl⟩ := own_slice HR2.out
    clear ho hg
    go_wp2_with fail
    refine (refFour_any (bs := [] ++ be4 gen) w1.heap.size HB2.out.size HR2.out (x := n) (by omega) (by omega) (by simp [be4_length])).mono ?_
    rintro e w3 ⟨v3, rfl, ho, hg, _⟩
    have HB3 := Aside.mk (HB2.out.grown hg HB2.out.size fun q e => (HR2.out.lt q e).1)
    have HR3 := Aside.mk ho
    obtain ⟨A3, m3, c3, rfl⟩ := own_slice HR3.out
    clear ho hg HB2 HR2
    go_wp2_with fail
    refine (refFour_any (bs := [] ++ be4 gen ++ be4 n) w1.heap.size HB3.out.size HR3.out (x := (l.length : Int)) (by omega) (by have := HLe.out; omega) (by simp [be4_length])).mono ?_
    rintro e wh ⟨vh, rfl, ho, hg, _⟩
    have HBh := Aside.mk (bthen HB1.out HB1.out.size (HB3.out.grown hg HB3.out.size fun q e => (HR3.out.lt q e).1))
    have hhe : [] ++ be4 gen ++ be4 n ++ be4 (l.length : Int) = headF gen n l.length := by simp [headF, fours]
    rw [hhe] at ho
    have HRh := Aside.mk (ho.mono HB1.out.size)
    obtain ⟨Ah, mh, ch, rfl⟩ := own_slice HRh.out
    clear ho hg HB3 HR3 hhe HB1
    obtain ⟨hi, hhi⟩ : ∃ hi, hi = wh.heap.size := ⟨_, rfl⟩
    have HHi := Aside.mk hhi
    have HBL0 : Aside (BL wh hi (.slice none 0 0) [] ((List.range 0).map fun q => rowB (chunkL l q))) := ⟨BL.nil _ _⟩
    have HBw0 : Aside (Below hi wh wh) := ⟨Below.refl _ _⟩
    clear hhi
    have hcnt : cnt l.length ≤ 16777216 := by unfold cnt; omega
    go_wp2
    go_loopg [11, 12] (cnt l.length) (fun kq v11 v12 wr => ∃ (i0 j : Nat) (vs : List Value), Aside (i0 = 50 * j) ∧ Aside (j + kq = cnt l.length) ∧ v12 = .int .i64 i0 ∧ Aside (Below hi wh wr) ∧ Aside (BL wr hi v11 vs ((List.range j).map fun q => rowB (chunkL l q))))
    case atStart => exact ⟨0, 0, [], ⟨rfl⟩, ⟨by omega⟩, rfl, HBw0, HBL0⟩
    case round =>
      clear HBL0 HBw0
      obtain ⟨i0, j, vs, HI0, HJ, rfl, HBw, HBL⟩ := hrel
      obtain ⟨wo, rfl⟩ : ∃ wo, wo = wr := ⟨_, rfl⟩
      obtain ⟨A11, m11, c11, rfl⟩ := own_slice HBL.out.own
      by_cases hj : i0 < l.length
      · have hjc : j < cnt l.length := by have := HI0.out; unfold cnt; omega
        have HIN : Aside (cnt l.length - (j + 1) < gk) := ⟨by have := HJ.out; omega⟩
        have HCL := Aside.mk (chunkL_len l j)
        have HCA := Aside.mk (fun t h => chunkL_at (l := l) (j := j) (t := t) h)
        have HCR : Aside (∀ y ∈ chunkL l j, (0 ≤ y.K ∧ y.K < 16777216) ∧ (0 ≤ y.Least ∧ y.Least < n) ∧ (1 ≤ y.Size ∧ y.Size ≤ n) ∧ -1 ≤ y.Parent ∧ y.Parent < l.length) := ⟨fun y hy => HEl2.out y (List.mem_of_mem_drop (List.mem_of_mem_take hy))⟩
        obtain ⟨ch, hche⟩ : ∃ ch, ch = chunkL l j := ⟨_, rfl⟩
        rw [← hche] at HCL HCA HCR
        have HCH := Aside.mk hche
        obtain ⟨B2, hB2⟩ : ∃ B2, B2 = wo.heap.size := ⟨_, rfl⟩
        have HBE := Aside.mk hB2
        have HB0 : Aside (Below B2 wo wo) := ⟨Below.refl _ _⟩
        have HR0 : Aside (wo.ownsRow B2 5 1 (.slice none 0 0) (rowB (ch.take 0)).length (u8s (rowB (ch.take 0)))) := ⟨World.ownsRow_nil _ _ _ _⟩
        clear hche hB2
        go_wp2
        go_loopg [13, 14] ch.length (fun kq v13 v14 wr2 => ∃ (k t : Nat), Aside (k = i0 + t) ∧ Aside (t + kq = ch.length) ∧ v14 = .int .i64 k ∧ Aside (Below B2 wo wr2) ∧ Aside (wr2.ownsRow B2 5 1 v13 (rowB (ch.take t)).length (u8s (rowB (ch.take t)))))
        case atStart => exact ⟨i0, 0, ⟨by omega⟩, ⟨by omega⟩, rfl, HB0, HR0⟩
        case round =>
          clear HB0 HR0
          obtain ⟨k, t, HK, HT, rfl, HBr, HRr⟩ := hrel
          obtain ⟨A13, m13, c13, rfl⟩ := own_slice HRr.out
          by_cases ht : t < ch.length
          · obtain ⟨htl0, hat0⟩ := HCA.out t ht
            have ht50 : t < 50 := by have := HCL.out; omega
            have hke : k = 50 * j + t := by have := HI0.out; have := HK.out; omega
            have htl : k < l.length := by omega
            have hat : ch[t] = l[k] := by rw [hat0]; congr 1; exact hke.symm
            have hki : k < i0 + 50 := by have := HK.out; omega
            clear hat0 htl0 hke
            have HBW : Aside (Below w.heap.size w wr) := ⟨bthen HBh.out HBh.out.size (by rw [← HHi.out]; exact HBw.out.trans (HBr.out.mono (by have := HBw.out.size; have := HHi.out; have := HBE.out; omega)))⟩
            have f1 : decide ((k : Int) < (l.length : Int)) = true := decide_eq_true (by omega)
            have f2 : decide ((k : Int) < (i0 : Int) + 50) = true := decide_eq_true (by omega)
            have hk24 : k ≤ 16777216 := by omega
            obtain ⟨b, o, e, -⟩ := (HS.out.below HBW.out).node k htl
            cases e
            have HC : Aside (∀ W, Below w.heap.size w W → W.cell? ⟨b, o + k * 4, none⟩ = some (.int .i64 ch[t].K) ∧ W.cell? ⟨b, o + k * 4 + 1, none⟩ = some (.int .i64 ch[t].Least) ∧
                W.cell? ⟨b, o + k * 4 + 2, none⟩ = some (.int .i64 ch[t].Size) ∧ W.cell? ⟨b, o + k * 4 + 3, none⟩ = some (.int .i64 ch[t].Parent)) := ⟨fun W hW => by
              obtain ⟨b', o', e, k0, k1, k2, k3⟩ := (HS.out.below hW).node k htl
              cases e
              rw [hat]
              exact ⟨k0, k1, k2, k3⟩⟩
            have hx := HCR.out ch[t] (List.getElem_mem ht)
            have HT2 := Aside.mk (rowB_take ht)
            have HTN : Aside (ch.length - (t + 1) < gk) := ⟨by have := HT.out; omega⟩
            have HLn0 : Aside ((rowB (ch.take t)).length ≤ 100000 + 0) := ⟨by rw [rowB_length, List.length_take]; omega⟩
            generalize ch[t] = y at *
            obtain ⟨xk, xl, xs, xp⟩ := y
            simp only at hx HC
            have HT3 : Aside (rowB (ch.take (t + 1)) = rowB (ch.take t) ++ be4 xk ++ be4 xl ++ be4 xs ++ be4 (xp + 1)) := ⟨by rw [HT2.out]; simp only [fours4, List.append_assoc, List.append_nil]⟩
            clear HT2
            obtain ⟨⟨a1, a2⟩, ⟨a3, a4⟩, ⟨a5, a6⟩, a7, a8⟩ := hx
            have HRow0 := HRr
            have HB0 := HBr
            clear HRr HBr HBW hat
            have kc := (HC.out wr (bthen HBh.out HBh.out.size (by rw [← HHi.out]; exact HBw.out.trans (HB0.out.mono (by have := HBw.out.size; have := HHi.out; have := HBE.out; omega))))).1
            go_wp2_with fail
            refine (refFour_any B2 (by have := HB0.out.size; have := HBE.out; omega) HRow0.out (x := xk) (by omega) (by omega) (by have := HLn0.out; omega)).mono ?_
            rintro e w1 ⟨v1, rfl, ho, hg, hm2⟩
            have HB1 := Aside.mk (HB0.out.grown hg (by have := HB0.out.size; have := HBE.out; omega) fun q e => (HRow0.out.lt q e).1)
            have HRow1 := Aside.mk ho
            have HLn1 : Aside (((rowB (ch.take t)) ++ be4 (xk)).length ≤ 100000 + 4) := ⟨by have := HLn0.out; rw [List.length_append, be4_length]; omega⟩
            obtain ⟨Ax1, mx1, cx1, rfl⟩ := own_slice HRow1.out
            clear ho hg hm2 HB0 HRow0 HLn0 kc
            have kc := (HC.out w1 (bthen HBh.out HBh.out.size (by rw [← HHi.out]; exact HBw.out.trans (HB1.out.mono (by have := HBw.out.size; have := HHi.out; have := HBE.out; omega))))).2.1
            go_wp2_with fail
            refine (refFour_any B2 (by have := HB1.out.size; have := HBE.out; omega) HRow1.out (x := xl) (by omega) (by omega) (by have := HLn1.out; omega)).mono ?_
            rintro e w2 ⟨v2, rfl, ho, hg, hm2⟩
            have HB2 := Aside.mk (HB1.out.grown hg (by have := HB1.out.size; have := HBE.out; omega) fun q e => (HRow1.out.lt q e).1)
            have HRow2 := Aside.mk ho
            have HLn2 : Aside ((((rowB (ch.take t)) ++ be4 (xk)) ++ be4 (xl)).length ≤ 100000 + 8) := ⟨by have := HLn1.out; rw [List.length_append, be4_length]; omega⟩
            obtain ⟨Ax2, mx2, cx2, rfl⟩ := own_slice HRow2.out
            clear ho hg hm2 HB1 HRow1 HLn1 kc
            have kc := (HC.out w2 (bthen HBh.out HBh.out.size (by rw [← HHi.out]; exact HBw.out.trans (HB2.out.mono (by have := HBw.out.size; have := HHi.out; have := HBE.out; omega))))).2.2.1
            go_wp2_with fail
            refine (refFour_any B2 (by have := HB2.out.size; have := HBE.out; omega) HRow2.out (x := xs) (by omega) (by omega) (by have := HLn2.out; omega)).mono ?_
            rintro e w3 ⟨v3, rfl, ho, hg, hm2⟩
            have HB3 := Aside.mk (HB2.out.grown hg (by have := HB2.out.size; have := HBE.out; omega) fun q e => (HRow2.out.lt q e).1)
            have HRow3 := Aside.mk ho
            have HLn3 : Aside (((((rowB (ch.take t)) ++ be4 (xk)) ++ be4 (xl)) ++ be4 (xs)).length ≤ 100000 + 12) := ⟨by have := HLn2.out; rw [List.length_append, be4_length]; omega⟩
            obtain ⟨Ax3, mx3, cx3, rfl⟩ := own_slice HRow3.out
            clear ho hg hm2 HB2 HRow2 HLn2 kc
            have kc := (HC.out w3 (bthen HBh.out HBh.out.size (by rw [← HHi.out]; exact HBw.out.trans (HB3.out.mono (by have := HBw.out.size; have := HHi.out; have := HBE.out; omega))))).2.2.2
            go_wp2_with fail
            refine (refFour_any B2 (by have := HB3.out.size; have := HBE.out; omega) HRow3.out (x := xp + 1) (by omega) (by omega) (by have := HLn3.out; omega)).mono ?_
            rintro e w4 ⟨v4, rfl, ho, hg, hm2⟩
            have HB4 := Aside.mk (HB3.out.grown hg (by have := HB3.out.size; have := HBE.out; omega) fun q e => (HRow3.out.lt q e).1)
            have HRow4 := Aside.mk ho
            have HLn4 : Aside ((((((rowB (ch.take t)) ++ be4 (xk)) ++ be4 (xl)) ++ be4 (xs)) ++ be4 (xp + 1)).length ≤ 100000 + 16) := ⟨by have := HLn3.out; rw [List.length_append, be4_length]; omega⟩
            obtain ⟨Ax4, mx4, cx4, rfl⟩ := own_slice HRow4.out
            clear ho hg hm2 HB3 HRow3 HLn3 kc
            go_wp2
            go_roundg (ch.length - (t + 1))
            case measure => exact HTN.out
            case rel => exact ⟨k + 1, t + 1, ⟨by have := HK.out; omega⟩, ⟨by omega⟩, by go_num, HB4, ⟨by rw [HT3.out]; exact HRow4.out⟩⟩
          · have hct : ch.take t = ch := List.take_of_length_le (by omega)
            rw [hct] at HRr
            have htq : t = ch.length := by have := HT.out; omega
            have HBL2 := Aside.mk (HBL.out.below (by rw [← HBE.out]; exact HBr.out))
            have hsz : hi ≤ wr.heap.size := by have := HBw.out.size; have := HBr.out.size; have := HHi.out; have := HBE.out; omega
            have HBw2 : Aside (Below hi wh wr) := ⟨HBw.out.trans (HBr.out.mono (by have := HBw.out.size; have := HHi.out; have := HBE.out; omega))⟩
            have HSz := Aside.mk hsz
            have HRr2 := Aside.mk (HRr.out.mono (show hi ≤ B2 by have := HBw.out.size; have := HHi.out; have := HBE.out; omega))
            have HNe : Aside (∀ q, Value.ownBlock (.slice A13 m13 c13) = some q → Value.ownBlock (.slice A11 m11 c11) ≠ some q) := ⟨fun q e e2 => by
              have h1 := (HRr.out.lt q e).1
              have h2 := (HBL.out.own.lt q e2).2
              have := HBE.out
              omega⟩
            have HLen : Aside (((List.range j).map fun q => rowB (chunkL l q)).length ≤ 16777216) := ⟨by rw [List.length_map, List.length_range]; omega⟩
            have HNext : Aside (∀ (v1 : Value) (w9 : World), w9.ownsRow hi 28 1 v1 (((List.range j).map fun q => rowB (chunkL l q)).length + 1) (vs ++ [.slice A13 m13 c13]) → wr.grownBy w9 (Value.ownBlock (.slice A11 m11 c11)) →
                (v1.ownBlock = Value.ownBlock (.slice A11 m11 c11) ∨ v1.ownBlock = some (wr.heap.size + 1)) → BL w9 hi v1 (vs ++ [.slice A13 m13 c13]) ((List.range (j + 1)).map fun q => rowB (chunkL l q)) ∧ Below hi wh w9) := ⟨fun v1 w9 hown hg hat => by
              have h1 := HBL2.out.snoc HRr2.out HNe.out hown hg (by rcases hat with e | e; exact .inl e; exact .inr ⟨_, e, by omega⟩)
              refine ⟨?_, HBw2.out.grown hg HSz.out fun q e => (HBL2.out.own.lt q e).1⟩
              rw [List.range_succ, List.map_append]
              simp only [List.map_cons, List.map_nil]
              rw [← HCH.out]
              exact h1⟩
            have HOwn := Aside.mk HBL2.out.own
            generalize ((List.range j).map fun q => rowB (chunkL l q)).length = cj at *
            have HEx : Aside ((k < l.length ∧ i0 + 50 ≤ k) ∨ l.length ≤ k) := ⟨by have := HCL.out; have := HI0.out; have := HK.out; omega⟩
            have HN9 : Aside (i0 + 50 = 50 * (j + 1)) := ⟨by have := HI0.out; omega⟩
            clear HRr HBL HBr HBw HBw2 HRr2 HNe HBL2 hct htq hsz ht HEl2 HCR HCA HS
            rcases HEx.out with ⟨q1, q2⟩ | q1
            · have f1 : decide ((k : Int) < (l.length : Int)) = true := decide_eq_true (by omega)
              have f2 : decide ((k : Int) < (i0 : Int) + 50) = false := decide_eq_false (by omega)
              go_wp2_with (at_builtin; go_must (refine app_one hi rfl _ _ 29 28 (.slice none 0 0) 1 24 rfl Tryd.underlying29 Tryd.infoBytes rfl (by decide) (by decide) (.slice A11 m11 c11) cj vs [.slice A13 m13 c13] rfl rfl rfl (by simp [Value.oneCell']) HOwn.out HSz.out (by have := HLen.out; omega) ?_; intro v1 w9 hown hg hat; obtain ⟨hb9, hw9⟩ := HNext.out v1 w9 hown hg hat; have HB9 := Aside.mk hb9; have HW9 := Aside.mk hw9; clear hown hg hat hb9 hw9))
              go_roundg (cnt l.length - (j + 1))
              case measure => exact HIN.out
              case rel => exact ⟨i0 + 50, j + 1, _, HN9, ⟨by have := HJ.out; omega⟩, by go_num, HW9, HB9⟩
            · have f1 : decide ((k : Int) < (l.length : Int)) = false := decide_eq_false (by omega)
              go_wp2_with (at_builtin; go_must (refine app_one hi rfl _ _ 29 28 (.slice none 0 0) 1 24 rfl Tryd.underlying29 Tryd.infoBytes rfl (by decide) (by decide) (.slice A11 m11 c11) cj vs [.slice A13 m13 c13] rfl rfl rfl (by simp [Value.oneCell']) HOwn.out HSz.out (by have := HLen.out; omega) ?_; intro v1 w9 hown hg hat; obtain ⟨hb9, hw9⟩ := HNext.out v1 w9 hown hg hat; have HB9 := Aside.mk hb9; have HW9 := Aside.mk hw9; clear hown hg hat hb9 hw9))
              go_roundg (cnt l.length - (j + 1))
              case measure => exact HIN.out
              case rel => exact ⟨i0 + 50, j + 1, _, HN9, ⟨by have := HJ.out; omega⟩, by go_num, HW9, HB9⟩
      · have hje : j = cnt l.length := by have := HJ.out; have := HI0.out; unfold cnt at *; omega
        have HBL3 : Aside (BL wo hi (.slice A11 m11 c11) vs (dataF l)) := ⟨by have h := HBL.out; rw [hje] at h; exact h⟩
        have HP : Aside (EncPost w gen n l (.returned (.tuple #[.slice Ah mh ch, .slice A11 m11 c11, .int .i64 0])) wo) :=
          ⟨fun _ => ⟨_, _, vs, rfl, ownsRow_move HRh.out (fun q e => HBw.out.block q (by rw [HHi.out]; exact (HRh.out.lt q e).2)), HBL3.out.low (by rw [HHi.out]; exact HBh.out.size)⟩, fun e => absurd (HOK.out.symm.trans e) (by decide), bthen HBh.out HBh.out.size (by rw [← HHi.out]; exact HBw.out)⟩
        replace hj : l.length ≤ i0 := by omega
        clear HBL3 HBL hje
        go_wp2
        exact bodyPost_ret (by simp [results, Tryd.results9, go_sem]) rfl HP.out
end
end Go.Proofs.YtikgdhmnnnicmaaDoor
