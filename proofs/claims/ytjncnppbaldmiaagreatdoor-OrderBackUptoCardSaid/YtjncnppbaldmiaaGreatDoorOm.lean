/- order.Encode walked. No condition. -/
import Derived.Test.YtjncnppbaldmiaaGreatDoorOi
import Derived.Test.YtjncnppbaldmiaaGreatDoorVy
import Derived.Shelf.Abstract
import Derived.Sort.LoopGhostIn
namespace Go.Proofs.YtjncnppbaldmiaaGreatDoor
open Go.RowKit Go.Shelf
theorem vform_le {x : Nat} (hx : x < 9223372036854775808) : (vform x).length ≤ 10 := by
  have h := vhi_length 9 (x / 128) (by rw [Nat.div_lt_iff_lt_mul (by omega)]; omega)
  simp only [vform, List.length_append, List.length_singleton]
  omega
theorem rowD_le {c : List Int} (h : ∀ d ∈ c, 0 ≤ d ∧ d < 9223372036854775808) : (rowD c).length ≤ 10 * c.length := by
  induction c with
  | nil => simp [rowD]
  | cons d c ih =>
    have h1 := ih fun d hd => h d (List.mem_cons_of_mem _ hd)
    have h2 := vform_le (x := d.toNat) (by have := h d List.mem_cons_self; omega)
    unfold rowD vI at *
    simp only [List.flatMap_cons, List.length_append, List.length_cons]
    omega
/-- What Encode answers. -/
def EncO (w : World) (gen : Int) (l : List Int) (e : Ending) (w' : World) : Prop :=
  (ordB gen l = true → ∃ hv dv vs, e = .returned (.tuple #[hv, dv, .int .i64 0]) ∧ w'.ownsRow w.heap.size 5 1 hv (headO gen l).length (u8s (headO gen l)) ∧ BL w' w.heap.size dv vs (dataD l)) ∧
  (ordB gen l = false → e = .returned (.tuple #[.slice none 0 0, .slice none 0 0, .int .i64 200])) ∧ Below w.heap.size w w'
theorem encO_no {w w' : World} {gen : Int} {l : List Int} (h : ordB gen l = false) (hb : Below w.heap.size w w') : EncO w gen l (.returned (.tuple #[.slice none 0 0, .slice none 0 0, .int .i64 200])) w' :=
  ⟨fun e => absurd (e.symm.trans h) (by decide), fun _ => rfl, hb⟩
theorem ordB_low {gen : Int} {l : List Int} (h : gen < 1) : ordB gen l = false := by
  unfold ordB; rw [decide_eq_false (by omega)]; rfl
theorem ordB_high {gen : Int} {l : List Int} (h : 2147483647 < gen) : ordB gen l = false := by
  unfold ordB; rw [decide_eq_false (by omega)]; rfl
theorem ordB_mid {gen : Int} {l : List Int} (h0 : ¬ gen < 1) (h1 : ¬ 2147483647 < gen) : ordB gen l = (permB l && decide (l.length ≤ 16777216)) := by
  unfold ordB; rw [decide_eq_true (by omega)]; rfl
theorem setCell_same {W : World} {g : Nat} {u u' : Value} {t : TypeId} (h : W.heap[g]? = some (.cells #[u] t (0, 0))) : (W.setCell ⟨g, 0, none⟩ u').heap[g]? = some (.cells #[u'] t (0, 0)) := by
  simp [World.setCell, Array.getElem?_modify, h]
theorem setCell_far {W : World} {g q : Nat} {u : Value} (h : q ≠ g) : (W.setCell ⟨g, 0, none⟩ u).heap[q]? = W.heap[q]? := Below.heap_setCell _ _ _ _ h
theorem setCell_size {W : World} {a : Addr} {u : Value} : (W.setCell a u).heap.size = W.heap.size := by simp
/-- What stands between two steps: N is the box of the rows. -/
structure OI (w : World) (N : Nat) (W : World) (dv : Value) (vs : List Value) (rows : List (List UInt8)) : Prop where
  bel : Below w.heap.size w W
  lt : w.heap.size ≤ N
  db : W.heap[N]? = some (.cells #[dv] 26 (0, 0))
  bl : BL W (N + 1) dv vs rows
section
variable {w W W' w9 : World} {N : Nat} {dv dv1 bv v1 : Value} {vs : List Value} {rows : List (List UInt8)} {cur ys : List UInt8}
theorem OI.below (h : OI w N W dv vs rows) (hb : Below W.heap.size W W') : OI w N W' dv vs rows := ⟨bthen h.bel h.bel.size hb, h.lt, bblk hb h.db, h.bl.below hb⟩
theorem OI.size (h : OI w N W dv vs rows) : N + 1 ≤ W.heap.size := by have := blk_lt h.db; omega
/-- A row goes behind the others. -/
theorem OI.flush (h : OI w N W dv vs rows) (hv : W.ownsRow (N + 1) 5 1 bv cur.length (u8s cur)) (hne : ∀ q, bv.ownBlock = some q → dv.ownBlock ≠ some q)
    (ho : w9.ownsRow (N + 1) 25 1 dv1 (rows.length + 1) (vs ++ [bv])) (hg : W.grownBy w9 dv.ownBlock) (hat : dv1.ownBlock = dv.ownBlock ∨ dv1.ownBlock = some (W.heap.size + 1)) :
    w9.heap[N]? = some (.cells #[dv] 26 (0, 0)) ∧ OI w N (w9.setCell ⟨N, 0, none⟩ dv1) dv1 (vs ++ [bv]) (rows ++ [cur]) := by
  have hlt := h.lt
  have hs0 := h.bel.size
  have hs9 := hg.size
  have hdv : ∀ q, dv.ownBlock = some q → N + 1 ≤ q ∧ q < W.heap.size := fun q e => h.bl.own.lt q e
  have hlow : ∀ q, q < N + 1 → w9.heap[q]? = W.heap[q]? := fun q hq => hg.block q (by have := h.size; omega) fun e => by have := (hdv q e.symm).1; omega
  have hm : Moved W dv dv1 := by rcases hat with e | e; exact .inl e; exact .inr ⟨_, e, by omega⟩
  have hsn := h.bl.snoc hv hne ho hg hm
  refine ⟨(hlow N (by omega)).trans h.db, ⟨?_, hlt, ?_, ?_⟩⟩
  · refine ⟨hg.os.trans h.bel.os, hg.tape.trans h.bel.tape, hg.output.trans h.bel.output, by rw [setCell_size]; omega, fun q hq => ?_⟩
    exact (setCell_far (by omega)).trans ((hlow q (by omega)).trans (h.bel.block q hq))
  · exact setCell_same ((hlow N (by omega)).trans h.db)
  · exact hsn.move fun q c t hq _ _ => setCell_far (by omega)
/-- Whatever keeps all cells and all that lies below. -/
theorem OI.keep (h : OI w N W dv vs rows) (ho : W'.os = W.os) (ht : W'.tape = W.tape) (hu : W'.output = W.output) (hs : W.heap.size ≤ W'.heap.size)
    (hlow : ∀ q, q < w.heap.size → W'.heap[q]? = W.heap[q]?) (hk : ∀ (q : Nat) (c : Array Value) (t : TypeId), W.heap[q]? = some (.cells c t (0, 0)) → W'.heap[q]? = W.heap[q]?) : OI w N W' dv vs rows :=
  ⟨⟨ho.trans h.bel.os, ht.trans h.bel.tape, hu.trans h.bel.output, Nat.le_trans h.bel.size hs, fun q hq => (hlow q hq).trans (h.bel.block q hq)⟩, h.lt, (hk _ _ _ h.db).trans h.db, h.bl.move fun q c t _ hq _ => hk q c t hq⟩
end
/-- What stands between two chunks: B and B + 1 hold what the iterator has caught. -/
def RO (w : World) (N B : Nat) (ds : List Int) (sl : Value) (k : Nat) (W : World) : Prop :=
  ∃ dv vs, OI w N W dv vs ((List.range k).map fun j => rowD (chD ds j)) ∧ W.heap[B]? = some (.cells #[sl] 22 (0, 0)) ∧ W.heap[B + 1]? = some (.cells #[.int .i64 200] 3 (0, 0))
theorem RO.own {w : World} {N B : Nat} {ds : List Int} {sl : Value} (hd : w.heap.size ≤ B) : OwnFrom (B + 2) (RO w N B ds sl) := by
  rintro k W W' row ⟨dv, vs, he, h1, h2⟩ hg hrow
  have hkeep : ∀ (q : Nat) (c : Array Value) (t : TypeId), W.heap[q]? = some (.cells c t (0, 0)) → W'.heap[q]? = W.heap[q]? := fun q c t hq => hg.block q (blk_lt hq) fun e => by
    obtain ⟨_, o', h1, h2⟩ := hrow q e.symm
    rw [hq] at h1
    cases h1
    cases h2
  have hl : ∀ q, q < w.heap.size → W'.heap[q]? = W.heap[q]? := fun q hq => hg.block q (by have := he.bel.size; omega) fun e => by have := (hrow q e.symm).1; omega
  exact ⟨dv, vs, he.keep hg.os hg.tape hg.output hg.size hl hkeep, (hkeep _ _ _ h1).trans h1, (hkeep _ _ _ h2).trans h2⟩
/-- One chunk more. -/
theorem RO.next {w W2 wr w9 : World} {N B : Nat} {ds : List Int} {sl dv dv1 bv : Value} {vs : List Value} {k : Nat}
    (h2 : OI w N W2 dv vs ((List.range k).map fun j => rowD (chD ds j))) (hB : W2.heap[B]? = some (.cells #[sl] 22 (0, 0))) (hB1 : W2.heap[B + 1]? = some (.cells #[.int .i64 200] 3 (0, 0))) (hBN : N + 1 ≤ B)
    (hs : Below W2.heap.size W2 wr) (ho : wr.ownsRow W2.heap.size 5 1 bv (rowD (chD ds k)).length (u8s (rowD (chD ds k))))
    (ha : w9.ownsRow (N + 1) 25 1 dv1 (((List.range k).map fun j => rowD (chD ds j)).length + 1) (vs ++ [bv])) (hg : wr.grownBy w9 dv.ownBlock) (hat : dv1.ownBlock = dv.ownBlock ∨ dv1.ownBlock = some (wr.heap.size + 1)) :
    w9.heap[N]? = some (.cells #[dv] 26 (0, 0)) ∧ RO w N B ds sl (k + 1) (w9.setCell ⟨N, 0, none⟩ dv1) ∧ KeepsFrom (B + 2) W2 (w9.setCell ⟨N, 0, none⟩ dv1) ∧ Stay (fun q => q = B ∨ q = B + 1) W2 (w9.setCell ⟨N, 0, none⟩ dv1) := by
  have hdv : ∀ q, dv.ownBlock = some q → N + 1 ≤ q ∧ q < W2.heap.size := fun q e => h2.bl.own.lt q e
  have hr := h2.below hs
  have hsz2 := h2.size
  obtain ⟨g1, g3⟩ := hr.flush (own_low ho (by omega)) (fun q e e2 => by have := (ho.lt q e).1; have := (hdv q e2).2; omega) ha hg hat
  have hlt := h2.lt
  have hs9 := hg.size
  have hss := hs.size
  have hfar : ∀ q, q < W2.heap.size → q ≠ N → dv.ownBlock ≠ some q → (w9.setCell ⟨N, 0, none⟩ dv1).heap[q]? = W2.heap[q]? := fun q h1 h2 h4 =>
    (setCell_far h2).trans ((hg.block q (by omega) (fun e => h4 e.symm)).trans (hs.block q h1))
  have hty : ∀ (q : Nat) (c : Array Value) (t : TypeId), t ≠ 25 → W2.heap[q]? = some (.cells c t (0, 0)) → dv.ownBlock ≠ some q := fun q c t ht hq e => by
    obtain ⟨c', h'⟩ := ownsRow_cells h2.bl.own e
    rw [hq] at h'
    cases h'
    exact ht rfl
  have kB := (hfar B (blk_lt hB) (by omega) (hty _ _ _ (by decide) hB)).trans hB
  have kB1 := (hfar (B + 1) (blk_lt hB1) (by omega) (hty _ _ _ (by decide) hB1)).trans hB1
  refine ⟨g1, ⟨dv1, vs ++ [bv], ?_, kB, kB1⟩, ⟨?_, ?_⟩, ?_⟩
  · rw [List.range_succ, List.map_append]
    exact g3
  · rw [setCell_size]; omega
  · intro q o hq ho' hn
    refine (hfar q (blk_lt ho') (by omega) fun e => ?_).trans ho'
    obtain ⟨c, h1⟩ := ownsRow_cells h2.bl.own e
    rw [ho'] at h1
    cases h1
    cases hn
  · intro q hq hl
    rcases hq with rfl | rfl
    · exact ⟨kB.trans hB.symm, by rw [setCell_size]; omega⟩
    · exact ⟨kB1.trans hB1.symm, by rw [setCell_size]; omega⟩
theorem encO_yes {w W9 W w5 : World} {gen : Int} {l : List Int} {N D : Nat} {dv hv : Value} {vs : List Value} (h : OI w N W9 dv vs (dataD l)) (hm : ordB gen l = true) (hD : w.heap.size ≤ D) (hKd : W9.heap[D]? = some (.deferred (some []))) (hb : Below W9.heap.size W9 W) (b5 : Below W.heap.size W w5)
    (ho : w5.ownsRow W.heap.size 5 1 hv (headO gen l).length (u8s (headO gen l))) : EncO w gen l (.returned (.tuple #[hv, dv, .int .i64 0])) (w5.putObj D (.deferred none)) ∧ w5.heap[D]? = some (.deferred (some [])) := by
  have hlt := h.lt
  have hDl := blk_lt hKd
  have h5 := bthen hb hb.size b5
  have e5 := h.below h5
  have d5 : w5.heap[D]? = some (.deferred (some [])) := bblk h5 hKd
  have hs0 := h.bel.size
  have hs1 := hb.size
  have hput : ∀ q, q ≠ D → (w5.putObj D (.deferred none)).heap[q]? = w5.heap[q]? := fun q hq => World.putObj_heap_other hq
  refine ⟨⟨fun _ => ⟨hv, dv, vs, rfl, ?_, ?_⟩, fun e => absurd (hm.symm.trans e) (by decide), ?_⟩, d5⟩
  · have ho' := own_low ho (show w.heap.size ≤ W.heap.size by omega)
    exact ownsRow_move ho' fun q e => hput q (by have := (ho.lt q e).1; omega)
  · exact (e5.bl.low (by omega)).move fun q c t _ hq _ => hput q (fun e => by subst e; rw [hq] at d5; cases d5)
  · have b := e5.bel
    exact ⟨b.os, b.tape, b.output, by simp; exact b.size, fun q hq => (hput q (by omega)).trans (b.block q hq)⟩
attribute [local go_sem] Oper.semAt_some
set_option maxHeartbeats 8000000 in
set_option maxRecDepth 100000 in
theorem encode_any {w : World} {ok : Nat → Prop} {v : Value} {gen : Int} {l : List Int} (hs : Sl kint w ok v l) (hl : l.length ≤ 1099511627776) : Calls Tryz.prog 8 #[.int .i64 gen, v] w (EncO w gen l) := by
  have hcall := isOrder_any hs hl
  obtain ⟨A, c, rfl, hcc, hm⟩ := hs.slice
  have H3 := Aside.mk hs
  clear hs
  refine (callsIn_wide (n := 6)).1 ?_
  refine callsIn_of_wp_marks Tryz.func8 rfl trivial ?_
  simp only [Tryz.ntmps8, List.size_toArray, List.length_cons, List.length_nil, Nat.reduceAdd, Nat.reduceSub, Array.replicate_succ, Array.replicate_zero, List.push_toArray, List.append_toArray, List.nil_append, List.cons_append]
  refine wpIn_wide.2 ?_
  by_cases h0 : gen < 1
  · have HP := Aside.mk (encO_no (w := w) (ordB_low (l := l) h0) (Below.refl _ _))
    have hd : decide (gen < (1 : Int)) = true := decide_eq_true h0
    clear hcall
    go_wp2
    exact ⟨_, by simp [results, Tryz.results8, go_sem], HP.out⟩
  · have hd : decide (gen < (1 : Int)) = false := decide_eq_false h0
    by_cases h1 : 2147483647 < gen
    · have HP := Aside.mk (encO_no (w := w) (ordB_high (l := l) h1) (Below.refl _ _))
      have hd1 : decide ((2147483647 : Int) < gen) = true := decide_eq_true h1
      clear hcall
      go_wp2
      exact ⟨_, by simp [results, Tryz.results8, go_sem], HP.out⟩
    · have hd1 : decide ((2147483647 : Int) < gen) = false := decide_eq_false h1
      have HMid := Aside.mk (ordB_mid (l := l) h0 h1)
      obtain ⟨ob, hob⟩ : ∃ ob, ob = (permB l && decide (l.length ≤ 16777216)) := ⟨_, rfl⟩
      rw [← hob] at hcall HMid
      clear hob
      have HGen := Aside.mk (And.intro h0 h1)
      clear h0 h1
      go_wp2_with fail
      refine hcall.mono ?_
      clear hcall
      rintro e w1 ⟨rfl, B1⟩
      have HB1 := Aside.mk B1
      clear B1 hd hd1
      cases ob with
      | false =>
        have HP := Aside.mk (encO_no HMid.out HB1.out)
        go_wp2
        exact ⟨_, by simp [results, Tryz.results8, go_sem], HP.out⟩
      | true =>
        have hl : l.length ≤ 16777216 := (ordB_parts HMid.out).2.2
        obtain ⟨N, hN⟩ : ∃ N, N = w1.heap.size := ⟨_, rfl⟩
        have hE0 : OI w N (w1.alloc (.cells #[.slice none 0 0] 26)) (.slice none 0 0) [] [] :=
          ⟨HB1.out.alloc HB1.out.size _, by have := HB1.out.size; omega, by rw [hN]; exact heap_alloc_new _ _, BL.nil _ _⟩
        have HE := Aside.mk hE0
        clear hE0
        go_wp2_with fail
        rw [← hN]
        clear hN HB1
        generalize w1.alloc (.cells #[.slice none 0 0] 26) = W1 at *
        refine (chunk_any A l.length c _).mono ?_
        rintro e w5 ⟨rfl, rfl⟩
        go_wp2_with fail
        have hba : ∃ b o, 0 < l.length → A = some ⟨b, o, none⟩ := by
          by_cases h0 : 0 < l.length
          · obtain ⟨b, o, e, _⟩ := H3.out.int 0 h0
            exact ⟨b, o, fun _ => e⟩
          · exact ⟨0, 0, fun h => absurd h h0⟩
        obtain ⟨bd, od, hA⟩ := hba
        obtain ⟨B, hBe⟩ : ∃ B, B = W1.heap.size := ⟨_, rfl⟩
        have hBN : N + 1 ≤ B := by rw [hBe]; exact HE.out.size
        have hwB : w.heap.size ≤ B := by have := HE.out.lt; omega
        have hsz5 : ((W1.alloc (.cells #[.slice A l.length c] 22)).alloc (.cells #[.int .i64 200] 3)).heap.size = B + 2 := by simp [hBe]
        have hDb : ((W1.alloc (.cells #[.slice A l.length c] 22)).alloc (.cells #[.int .i64 200] 3)).heap[B]? = some (.cells #[.slice A l.length c] 22 (0, 0)) := by
          rw [Below.heap_alloc _ _ _ (by simp only [World.size_alloc]; omega), hBe]
          exact heap_alloc_new _ _
        have hDn : ((W1.alloc (.cells #[.slice A l.length c] 22)).alloc (.cells #[.int .i64 200] 3)).heap[B + 1]? = some (.cells #[.int .i64 200] 3 (0, 0)) := by
          rw [show B + 1 = (W1.alloc (.cells #[.slice A l.length c] 22)).heap.size by simp [hBe]]
          exact heap_alloc_new _ _
        have hB5 : Below W1.heap.size W1 ((W1.alloc (.cells #[.slice A l.length c] 22)).alloc (.cells #[.int .i64 200] 3)) := ((Below.refl _ W1).alloc (Nat.le_refl _) _).alloc (by simp) _
        have hBs := (store_at hDb 0 (show 0 < 1 by decide)).1
        have hBn := (store_at hDn 0 (show 0 < 1 by decide)).1
        simp only [List.getElem_toArray, List.getElem_cons_zero] at hBs hBn
        rw [← hBe] at hB5 ⊢
        have HI0 : Aside (RO w N B l (.slice A l.length c) 0 ((W1.alloc (.cells #[.slice A l.length c] 22)).alloc (.cells #[.int .i64 200] 3))) := ⟨⟨_, _, by simpa using HE.out.below (by rw [← hBe]; exact hB5), hDb, hDn⟩⟩
        generalize (W1.alloc (.cells #[.slice A l.length c] 22)).alloc (.cells #[.int .i64 200] 3) = W5 at *
        clear HE hB5 hDb hDn hBe
        have HK := Aside.mk (ordB_parts HMid.out)
        refine (wpIn_wide (n := 6)).1 ?_
        refine range_known_d (F := Fence.wide) (n := 6) rfl (by omega) (gf := 69) (lb := #[.pointer (some ⟨B, 0, none⟩), .pointer (some ⟨B + 1, 0, none⟩)]) rfl trivial (enters_of Tryz.func69 (by kernel_rfl) rfl) (encs := fun x : Nat => #[chunkV bd od l.length x])
          (Kp := Stay fun q => q = B ∨ q = B + 1) (List.range (cnt l.length)) (fun l' J W hb hJd hY h0 => chunk_known (n := 6 - 1) trivial rfl (by omega) (L := fun q => q = B ∨ q = B + 1) (.inl rfl) (.inr rfl) (fun h => hA h) hl hcc hBs hBn l' J W hb hJd hY h0)
          (fun h k q hq hlt => ⟨((k q hq (h q hq hlt).2).1).trans (h q hq hlt).1, (k q hq (h q hq hlt).2).2⟩)
          (fun W l' o o' hl _ _ q hq hlt => ⟨World.putObj_heap_other (by rcases hq with h | h <;> omega), by simpa using hlt⟩) (fun _ => rfl)
          (RO w N B l (.slice A l.length c)) (by rw [hsz5]; exact RO.own hwB) HI0.out ?round ?done
        case round =>
          clear HI0 hBs hBn
          intro l' k x W K hx hK
          gi_wp2
          rintro W2 ⟨dv, vs, hei, hB, hB1⟩ hsz2
          have hkx : k < cnt l.length ∧ x = k := by
            obtain ⟨h1, h2⟩ := List.getElem?_eq_some_iff.1 hx
            simp at h1 h2
            exact ⟨h1, h2.symm⟩
          obtain ⟨hk, rfl⟩ := hkx
          have h200 : 200 * x < l.length := by unfold cnt at hk; omega
          obtain rfl := hA (by omega)
          have hql := chD_len l x
          have hsub : ∀ W', Below w.heap.size w W' → Sl kint W' ok (.slice (some ⟨bd, od + 200 * x, none⟩) (chD l x).length (chD l x).length) (chD l x) := fun W' hb => by
            have h := (H3.out.below hb).part (i := 200 * x) (m := min 200 (l.length - 200 * x)) (by omega)
            have e1 : (l.drop (200 * x)).take (min 200 (l.length - 200 * x)) = chD l x := by
              unfold chD
              rw [List.take_eq_take_iff]
              simp
            rw [e1, ← hql] at h
            simpa [kint, flat] using h
          have hcv : chunkV bd od l.length x = .slice (some ⟨bd, od + 200 * x, none⟩) (chD l x).length (chD l x).length := by rw [hql]; rfl
          rw [hcv]
          have HRg : Aside (∀ d ∈ chD l x, 0 ≤ d ∧ d < 9223372036854775808) := ⟨fun d hd => by
            have := permB_nums HK.out.2.1 d (List.mem_of_mem_drop (List.mem_of_mem_take hd))
            omega⟩
          have hq200 : (chD l x).length ≤ 200 := by omega
          have HNext := Aside.mk (fun wr w9 dv1 bv => RO.next (wr := wr) (w9 := w9) (dv1 := dv1) (bv := bv) (sl := .slice (some ⟨bd, od, none⟩) l.length c) hei hB hB1 hBN)
          have HEI := Aside.mk hei
          have HXB : Aside (x ≤ 16777216) := ⟨by omega⟩
          have HSub := Aside.mk hsub
          have HI0 : Aside (Below W2.heap.size W2 W2 ∧ W2.ownsRow W2.heap.size 5 1 (.slice none 0 0) (rowD ((chD l x).take 0)).length (u8s (rowD ((chD l x).take 0)))) := ⟨Below.refl _ _, World.ownsRow_nil _ _ _ _⟩
          clear hei hB hB1 hql hcv hx hk h200 hA hsub hsz2 hl hcc
          obtain ⟨ch, hche⟩ : ∃ ch, ch = chD l x := ⟨_, rfl⟩
          rw [← hche] at HSub HRg hq200 HI0 ⊢
          have HCH := Aside.mk hche
          clear hche
          gi_wp2
          gi_loopg [9, 28] ch.length (fun kq v9 v28 wr => ∃ (i : Nat), Aside (i + kq = ch.length) ∧ v28 = .int .i64 i ∧ Aside (Below W2.heap.size W2 wr ∧ wr.ownsRow W2.heap.size 5 1 v9 (rowD (ch.take i)).length (u8s (rowD (ch.take i)))))
          case atStart => exact ⟨0, ⟨by omega⟩, rfl, HI0⟩
          case round =>
            clear HI0
            obtain ⟨i, HI, rfl, HE⟩ := hrel
            by_cases hi : i < ch.length
            · obtain ⟨b', o', e, k0⟩ := (HSub.out wr (bthen HEI.out.bel HEI.out.bel.size HE.out.1)).int i hi
              cases e
              have HIN : Aside (ch.length - (i + 1) < gk ∧ i + 1 + (ch.length - (i + 1)) = ch.length) := ⟨by have := HI.out; omega⟩
              have HT := Aside.mk (rowD_take hi)
              have hx := HRg.out ch[i] (List.getElem_mem hi)
              have hlen : (rowD (ch.take i)).length ≤ 2000 := by
                have h := rowD_le (c := ch.take i) fun d hd => HRg.out d (List.mem_of_mem_take hd)
                rw [List.length_take] at h
                omega
              generalize ch[i] = d at *
              obtain ⟨y, rfl⟩ := Int.eq_ofNat_of_zero_le hx.1
              have hy : y < 9223372036854775808 := by have := hx.2; omega
              obtain ⟨wq, hwq⟩ : ∃ wq, wq = wr := ⟨_, rfl⟩
              subst hwq
              obtain ⟨Ae, ne, ce, rfl⟩ := own_slice HE.out.2
              have HCon := Aside.mk (vPut_any y hy (own_u8s HE.out.2).sl (by omega))
              have HYI : Aside (rowD (ch.take (i + 1)) = rowD (ch.take i) ++ vform y) := ⟨by rw [HT.out]; simp [vI]⟩
              clear hx hlen HT
              gi_wp2_with fail
              refine ⟨trivial, (CallsIn.inRound l' (callsIn_wide.2 HCon.out)).mono ?_⟩
              clear HCon k0
              rintro e w9 ⟨v9, rfl, ho9, hb9⟩
              obtain ⟨A9, m9, c9, rfl⟩ := own_slice ho9
              have HG : Aside (Below W2.heap.size W2 w9 ∧ w9.ownsRow W2.heap.size 5 1 (.slice A9 m9 c9) (rowD (ch.take (i + 1))).length (u8s (rowD (ch.take (i + 1))))) := ⟨bthen HE.out.1 HE.out.1.size hb9, by rw [HYI.out]; exact own_low ho9 HE.out.1.size⟩
              clear ho9 hb9 HE
              gi_wp2_with fail
              gi_roundg (ch.length - (i + 1))
              case measure => exact HIN.out.1
              case rel => exact ⟨i + 1, ⟨HIN.out.2⟩, by go_num, HG⟩
            · have hit : ch.take i = ch := List.take_of_length_le (by omega)
              rw [hit] at HE
              obtain ⟨A1, m1, c1, rfl⟩ := own_slice HE.out.2
              replace hi : ch.length ≤ i := by omega
              have hwr := HEI.out.below HE.out.1
              have cdb := (store_at hwr.db 0 (show 0 < 1 by decide)).1
              simp only [List.getElem_toArray, List.getElem_cons_zero] at cdb
              have HOwr := Aside.mk hwr.bl.own
              have HWr := Aside.mk hwr.size
              clear hwr
              have HNx : Aside (∀ (w9 : World) (dv1 : Value), w9.ownsRow (N + 1) 25 1 dv1 (((List.range x).map fun j => rowD (chD l j)).length + 1) (vs ++ [.slice A1 m1 c1]) → wr.grownBy w9 dv.ownBlock → (dv1.ownBlock = dv.ownBlock ∨ dv1.ownBlock = some (wr.heap.size + 1)) →
                  w9.heap[N]? = some (.cells #[dv] 26 (0, 0)) ∧ RO w N B l (.slice (some ⟨bd, od, none⟩) l.length c) (x + 1) (w9.setCell ⟨N, 0, none⟩ dv1) ∧ KeepsFrom (B + 2) W2 (w9.setCell ⟨N, 0, none⟩ dv1) ∧ Stay (fun q => q = B ∨ q = B + 1) W2 (w9.setCell ⟨N, 0, none⟩ dv1)) :=
                ⟨fun w9 dv1 h1 h2 h3 => HNext.out wr w9 dv1 _ HE.out.1 (by rw [← HCH.out]; exact HE.out.2) h1 h2 h3⟩
              have HLen : Aside (((List.range x).map fun j => rowD (chD l j)).length ≤ 33554432) := ⟨by
                have := HXB.out
                simp only [List.length_map, List.length_range]
                omega⟩
              generalize ((List.range x).map fun j => rowD (chD l j)).length = cntx at *
              clear HE hit HNext HSub HRg HCH HEI
              gi_wp2_with (gi_at_builtin; go_must (refine app_one_in (N + 1) rfl _ _ 26 25 (.slice none 0 0) 1 24 rfl Tryz.underlying26 Tryz.infoBytes rfl (by decide) (by decide) dv cntx vs [.slice A1 m1 c1] rfl rfl rfl (by simp [Value.oneCell']) HOwr.out HWr.out (by have := HLen.out; omega) ?_; intro v1 w9 hown hg9 hat; obtain ⟨A9, m9, c9, rfl⟩ := own_slice hown; obtain ⟨hd9, hi9, hk9, hs9⟩ := HNx.out w9 _ hown hg9 hat; have cd9 : w9.cell? ⟨N, 0, none⟩ = some dv := cell_blk hd9 rfl; have fd9 : w9.frozen? ⟨N, 0, none⟩ = false := frozen_of_row w9 N 0 _ _ hd9; have HI9 := Aside.mk hi9; have HK9 := Aside.mk hk9; have HS9 := Aside.mk hs9; clear hown hg9 hat hd9 hi9 hk9 hs9))
              exact ⟨by rw [hsz5]; exact HK9.out, HS9.out, HI9.out⟩
        case done =>
          clear HI0 hBs hBn hA
          rintro D W9 hD ⟨dv, vs, hei, -, -⟩ hKd
          rw [List.length_range] at hei
          have HEI : Aside (OI w N W9 dv vs (dataD l)) := ⟨hei⟩
          clear hei
          have cdb := (store_at HEI.out.db 0 (show 0 < 1 by decide)).1
          simp only [List.getElem_toArray, List.getElem_cons_zero] at cdb
          obtain ⟨A2, m2, c2, rfl⟩ := own_slice HEI.out.bl.own
          have bl1 : Below W9.heap.size W9 W9.drew := bdrew1 (Below.refl _ _)
          have bl2 := bl1.alloc (Nat.le_refl _) (.cells #[.int .i64 gen, .int .i64 (l.length : Int)] 3)
          have hlit : Sl kint (W9.drew.alloc (.cells #[.int .i64 gen, .int .i64 (l.length : Int)] 3)) (W9.drew.heap.size ≤ ·) (.slice (some ⟨W9.drew.heap.size, 0, none⟩) 2 2) [gen, (l.length : Int)] :=
            (own_ints (World.ownsRow_lit W9.drew #[.int .i64 gen, .int .i64 (l.length : Int)] 2 (Nat.le_refl _) (by decide) (by simp))).sl
          have hrg := HGen.out
          have HC := Aside.mk (mfour_any hlit (by intro z hz; simp at hz; omega) (by simp))
          have HN5 : Aside (∀ w5, Below (W9.drew.alloc (.cells #[.int .i64 gen, .int .i64 (l.length : Int)] 3)).heap.size (W9.drew.alloc (.cells #[.int .i64 gen, .int .i64 (l.length : Int)] 3)) w5 → w5.cell? ⟨N, 0, none⟩ = some (.slice A2 m2 c2)) := ⟨fun w5 h5 => bcell (bthen bl2 bl2.size h5) cdb⟩
          have HDone : Aside (∀ w5 hv, Below (W9.drew.alloc (.cells #[.int .i64 gen, .int .i64 (l.length : Int)] 3)).heap.size (W9.drew.alloc (.cells #[.int .i64 gen, .int .i64 (l.length : Int)] 3)) w5 → w5.ownsRow (W9.drew.alloc (.cells #[.int .i64 gen, .int .i64 (l.length : Int)] 3)).heap.size 5 1 hv (headO gen l).length (u8s (headO gen l)) → EncO w gen l (.returned (.tuple #[hv, .slice A2 m2 c2, .int .i64 0])) (w5.putObj D (.deferred none)) ∧ w5.heap[D]? = some (.deferred (some []))) := ⟨fun w5 hv h5 ho => encO_yes HEI.out HMid.out (by omega) hKd bl2 h5 ho⟩
          have hH0 := bcell bl1 cdb
          have hHA := bcell bl2 cdb
          clear hrg hlit bl1 bl2 hKd HEI HK
          go_upto_region 13 with (fail)
          refine wp_region_noPanic ?_
          refine wp_region_X 8 (fun w' => w'.cell? ⟨N, 0, none⟩ = some (.slice A2 m2 c2)) (by kernel_rfl) ?_
          refine wpAnyX_take (i := 0) (oi := ⟨some 40, .move (.tmp 0), _, _, _, _⟩) (v := .int .i64 gen) rfl (by kernel_rfl) (by kernel_rfl) (by kernel_rfl) (by kernel_rfl) (fun _ _ _ h => h) (Or.inl ⟨by rfl, ?_⟩) hH0 ?_
          · intro w' hSw
            first | (go_simp; done) | (go_simp; rfl)
          simp only [Act.put, List.setIfInBounds_toArray, List.set_cons_zero, List.set_cons_succ]
          refine wpAnyX_take (i := 1) (oi := ⟨some 41, .move (.tmp 1), _, _, _, _⟩) (v := .slice A l.length c) rfl (by kernel_rfl) (by kernel_rfl) (by kernel_rfl) (by kernel_rfl) (fun _ _ _ h => h) (Or.inl ⟨by rfl, ?_⟩) hH0 ?_
          · intro w' hSw
            first | (go_simp; done) | (go_simp; rfl)
          simp only [Act.put, List.setIfInBounds_toArray, List.set_cons_zero, List.set_cons_succ]
          refine wpAnyX_take (i := 2) (oi := ⟨some 42, .call { callee := .builtin .len, args := #[.tmp 41], argTypes := #[22] }, _, _, _, _⟩) (v := .int .i64 (l.length : Int)) rfl (by kernel_rfl) (by kernel_rfl) (by kernel_rfl) (by kernel_rfl) (fun _ _ _ h => h) (Or.inl ⟨by rfl, ?_⟩) hH0 ?_
          · intro w' hSw
            first | (go_simp; done) | (go_simp; rfl)
          simp only [Act.put, List.setIfInBounds_toArray, List.set_cons_zero, List.set_cons_succ]
          refine wpAnyX_take (i := 5) (oi := ⟨some 45, .load 26 (.tmp 7), _, _, _, _⟩) (v := .slice A2 m2 c2) rfl (by kernel_rfl) (by kernel_rfl) (by kernel_rfl) (by kernel_rfl) (fun _ _ _ h => h) (Or.inl ⟨by rfl, ?_⟩) hH0 ?_
          · intro w' hSw
            first | (go_simp; done) | (go_simp; rfl)
          simp only [Act.put, List.setIfInBounds_toArray, List.set_cons_zero, List.set_cons_succ]
          refine wpAnyX_one (i := 3) (oi := ⟨some 43, .buildSlice 22 2 #[(0, .tmp 40), (1, .tmp 42)], _, _, _, _⟩) rfl (by kernel_rfl) (fun K hK => ?_)
          go_simp
          refine hK _ _ ⟨.inr hHA, ?_⟩
          clear hK K
          try simp only [Act.put, List.setIfInBounds_toArray, List.set_cons_zero, List.set_cons_succ]
          refine wpAnyX_one (i := 4) (oi := ⟨some 44, .call { callee := .value (.func 31), args := #[.tmp 43], argTypes := #[22] }, _, _, _, _⟩) rfl (by kernel_rfl) (fun K hK => ?_)
          go_simp
          refine HC.out.mono ?_
          rintro e w5 ⟨v4, rfl, ho4, B5⟩
          have hS5 := HN5.out w5 B5
          obtain ⟨HP, hD5⟩ := HDone.out w5 _ B5 ho4
          obtain ⟨A1, m1, c1, rfl⟩ := own_slice ho4
          refine hK _ _ ⟨.inr hS5, ?_⟩
          clear hK K
          try simp only [Act.put, List.setIfInBounds_toArray, List.set_cons_zero, List.set_cons_succ]
          refine wpAnyX_one (i := 6) (oi := ⟨some 4, .assign (.tmp 44), _, _, _, _⟩) rfl (by kernel_rfl) (fun K hK => ?_)
          go_simp
          refine hK _ _ ⟨.inr hS5, ?_⟩
          clear hK K
          try simp only [Act.put, List.setIfInBounds_toArray, List.set_cons_zero, List.set_cons_succ]
          refine wpAnyX_one (i := 7) (oi := ⟨some 5, .assign (.tmp 45), _, _, _, _⟩) rfl (by kernel_rfl) (fun K hK => ?_)
          go_simp
          refine hK _ _ ⟨.inr hS5, ?_⟩
          clear hK K
          try simp only [Act.put, List.setIfInBounds_toArray, List.set_cons_zero, List.set_cons_succ]
          refine wpAnyX_one (i := 8) (oi := ⟨some 6, .assign (.const (.int .i64 0)), _, _, _, _⟩) rfl (by kernel_rfl) (fun K hK => ?_)
          go_simp
          refine hK _ _ ⟨.inl rfl, ?_⟩
          clear hK K
          try simp only [Act.put, List.setIfInBounds_toArray, List.set_cons_zero, List.set_cons_succ]
          refine wpAnyX_done (by kernel_rfl) (NoPanic.normal ?_) _
          go_wp2
          refine ⟨by simp, .inl ⟨_, _, rfl, run_takeDeferred hD5, ?_⟩⟩
          exact ⟨_, by simp [results, Tryz.results8, go_sem], HP⟩
end Go.Proofs.YtjncnppbaldmiaaGreatDoor
