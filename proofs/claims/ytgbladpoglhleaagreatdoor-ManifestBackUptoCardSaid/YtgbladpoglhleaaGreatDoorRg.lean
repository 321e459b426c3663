/- Ranges over a function whose values are known one by one; slices.Chunk of numbers by two hundred; lists of bytes' lists that a call has made. No condition. -/
import Derived.RangeFuncNested
import Derived.RangeFuncBound
import Derived.RangeFuncCalls
import Derived.RangeFuncLeaves
import Derived.OwnWalkIn
import Derived.TacticsInMore
import Derived.LoopNIn
import Derived.LoopIn
import Derived.Sort.LoopGhostIn
import Derived.Sort.CutIn
import Derived.Maps.OwnIn
import Derived.Lib.MinMax
import Derived.Test.YtgbladpoglhleaaGreatDoorFm
namespace Go.Proofs.YtgbladpoglhleaaGreatDoor
section
open Go.RowKit
attribute [local go_sem] Oper.semAt_some
def Stay (L : Nat → Prop) (W W' : World) : Prop := ∀ q, L q → q < W.heap.size → W'.heap[q]? = W.heap[q]? ∧ q < W'.heap.size
/-- How a round of the body is left: it goes on. -/
def onPost (B : Nat) (Kp : World → World → Prop) (I : Nat → World → Prop) (k : Nat) (W : World) : Exit → Act → World → Prop
  | .normal, _, W' => KeepsFrom B W W' ∧ Kp W W' ∧ I k W'
  | _, _, _ => False
theorem chunk_any (A : Option Addr) (n c : Nat) (w : World) : Calls Tryz.prog 51 #[.slice A n c, .int .i64 200] w fun e w' => e = .returned (.func (.func 79) #[] #[.pointer (some ⟨w.heap.size, 0, none⟩), .pointer (some ⟨w.heap.size + 1, 0, none⟩)]) ∧ w' = (w.alloc (.cells #[.slice A n c] 30)).alloc (.cells #[.int .i64 200] 3) := by
  go_enter Tryz.func51, Tryz.ntmps51
  go_wp2
  go_ret
  exact ⟨by simp, rfl⟩
/-- How many chunks. -/
def cnt (n : Nat) : Nat := (n + 199) / 200
def chunkV (b o n j : Nat) : Value := .slice (some ⟨b, o + 200 * j, none⟩) (min 200 (n - 200 * j)) (min 200 (n - 200 * j))
set_option maxRecDepth 100000 in
set_option maxHeartbeats 2000000 in
theorem chunk_in (F : Fence) (n : Nat) (hf : F.fn 79) (hro : F.round = none) (hn : 1 ≤ n) (l Bs Bn : Nat) (L : Nat → Prop) (hL : L Bs) (hLn : L Bn) (A : Option Addr) (b o m c : Nat) (hA : 0 < m → A = some ⟨b, o, none⟩) (hm : m ≤ 16777216) (hmc : m ≤ c) (J : Nat → World → Prop) (hJd : ∀ k W, J k W → J k W.drew)
    (hY : ∀ k W, k < cnt m → J k W → YieldAt F (n - 1) Tryz.prog l #[chunkV b o m k] W fun e W' => e = .returned (.bool true) ∧ J (k + 1) W' ∧ Stay L W W')
    (W : World) (hBs : W.cell? ⟨Bs, 0, none⟩ = some (.slice A m c)) (hBn : W.cell? ⟨Bn, 0, none⟩ = some (.int .i64 200)) (h0 : J 0 W) :
    CallsIn F n Tryz.prog 79 #[.func (.yield l) #[] #[], .pointer (some ⟨Bs, 0, none⟩), .pointer (some ⟨Bn, 0, none⟩)] W fun e W' => (∃ v, e = .returned v) ∧ J (cnt m) W' := by
  refine callsIn_of_wp Tryz.func79 rfl hf ?_ hro
  simp only [Tryz.ntmps79, List.size_toArray, List.length_cons, List.length_nil, Nat.reduceAdd, Nat.reduceSub, Array.replicate_succ, Array.replicate_zero, List.push_toArray, List.append_toArray, List.nil_append, List.cons_append]
  gi_wp2
  gi_loopw [4] (fun i wr => ∃ r : Nat, r ≤ cnt m ∧ i = .int .i64 (200 * (r : Int)) ∧ J r wr ∧ Stay L W wr)
    (fun i _ => match i with | .int _ q => (200 * (cnt m : Int) - q).toNat | _ => 0)
  case atStart => exact ⟨0, Nat.zero_le _, by go_num, h0, fun q _ hq => ⟨rfl, hq⟩⟩
  case round =>
    obtain ⟨r, hr, rfl, hJs, hnx⟩ := hrel
    have hBl : Bs < W.heap.size := by
      unfold World.cell? at hBs
      cases hh : W.heap[Bs]? with
      | none => simp [hh] at hBs
      | some o => exact blk_lt hh
    have hBm : Bn < W.heap.size := by
      unfold World.cell? at hBn
      cases hh : W.heap[Bn]? with
      | none => simp [hh] at hBn
      | some o => exact blk_lt hh
    have hBw : wr.cell? ⟨Bs, 0, none⟩ = some (.slice A m c) := (World.cell?_of_block (hnx Bs hL hBl).1).trans hBs
    have hBx : wr.cell? ⟨Bn, 0, none⟩ = some (.int .i64 200) := (World.cell?_of_block (hnx Bn hLn hBm).1).trans hBn
    by_cases hlt : r < cnt m
    · have h1 : 200 * r < m := by unfold cnt at hlt; omega
      obtain rfl := hA (by omega)
      obtain ⟨fn, tmps, assign, body, hy, hR⟩ := hY r wr.drew hlt (hJd r wr hJs)
      have hq : min (200 : Int) ((m - 200 * r : Nat) : Int) = ((min 200 (m - 200 * r) : Nat) : Int) := by omega
      have hcv : chunkV b o m r = .slice (some ⟨b, o + 200 * r, none⟩) (min 200 (m - 200 * r)) (min 200 (m - 200 * r)) := rfl
      have hq1 : 200 * r + min 200 (m - 200 * r) ≤ m := by omega
      have hq2 : min 200 (m - 200 * r) ≤ 200 := by omega
      have hq3 : 0 < min 200 (m - 200 * r) := by omega
      rw [hcv] at hy
      clear hcv
      gi_wp2
      gi_region
      all_goals (clear hq; generalize min 200 (m - 200 * r) = q at *)
      all_goals gi_wp2
      all_goals (refine hR.mono ?_; rintro e W3 ⟨rfl, hJ3, hk3⟩)
      all_goals (have hB3 : W3.cell? ⟨Bn, 0, none⟩ = some (.int .i64 200) := (World.cell?_of_block (hk3 Bn hLn (hnx Bn hLn hBm).2).1).trans hBx)
      all_goals gi_wp2
      all_goals go_roundw
      all_goals first
        | exact ⟨r + 1, by omega, by go_num, hJ3, fun q' hq' hlt' => ⟨((hk3 q' hq' (hnx q' hq' hlt').2).1).trans (hnx q' hq' hlt').1, (hk3 q' hq' (hnx q' hq' hlt').2).2⟩⟩
        | (simp; omega)
    · have hre : r = cnt m := by omega
      have h1 : m ≤ 200 * r := by unfold cnt at hre; omega
      rw [hre] at hJs
      have h2 : decide ((200 * (r : Int)) < (m : Int)) = false := decide_eq_false (by omega)
      gi_wp2
      go_end0
      exact ⟨⟨_, rfl⟩, hJs⟩
theorem chunk_known {F : Fence} {n : Nat} (hf : F.fn 79) (hro : F.round = none) (hn : 1 ≤ n) {Bs Bn : Nat} {L : Nat → Prop} (hL : L Bs) (hLn : L Bn) {A : Option Addr} {b o m c : Nat} (hA : 0 < m → A = some ⟨b, o, none⟩) (hm : m ≤ 16777216) (hmc : m ≤ c) {w : World}
    (hBs : w.cell? ⟨Bs, 0, none⟩ = some (.slice A m c)) (hBn : w.cell? ⟨Bn, 0, none⟩ = some (.int .i64 200))
    (l : Nat) (J : Nat → World → Prop) (W : World) (hb : Below w.heap.size w W) (hJd : ∀ k W, J k W → J k W.drew)
    (hY : ∀ k x W1, (List.range (cnt m))[k]? = some x → J k W1 → YieldAt F (n - 1) Tryz.prog l #[chunkV b o m x] W1 fun e W' => e = .returned (.bool true) ∧ J (k + 1) W' ∧ Stay L W1 W') (h0 : J 0 W) :
    CallsIn F n Tryz.prog 79 (#[.func (.yield l) #[] #[]] ++ #[.pointer (some ⟨Bs, 0, none⟩), .pointer (some ⟨Bn, 0, none⟩)]) W fun e W' => (∃ v, e = .returned v) ∧ J (List.range (cnt m)).length W' := by
  rw [List.length_range]
  exact chunk_in F n hf hro hn l Bs Bn L hL hLn A b o m c hA hm hmc J hJd (fun k W hk hJ => hY k k W (by rw [List.getElem?_range hk]) hJ) W (bcell hb hBs) (bcell hb hBn) h0
/-- 'range_known' where the function draws an order of evaluation: its invariant bears a draw. -/
theorem range_known_d {F : Fence} {n : Nat} {P : Program} {α : Type} {g : Operand} {ps : Array Tmp} {assign body : Code} {Q : Exit → Act → World → Prop} {a : Act} {w : World}
    (hro : F.round = none) (h1 : 1 ≤ n) {gf : Nat} {lb : Array Value} (hg : a.eval g = .func (.func gf) #[] lb) (hFg : F.fn gf) (eg : ∀ args w, (callFunc gf args).run P w = .ok (.enter gf args) w)
    {encs : α → Array Value} {Kp : World → World → Prop} (xs : List α)
    (hseq : ∀ (l : Nat) (J : Nat → World → Prop) (W : World), Below w.heap.size w W → (∀ k W, J k W → J k W.drew) →
      (∀ k x W1, xs[k]? = some x → J k W1 → YieldAt F (n - 1 - 1) P l (encs x) W1 fun e W' => e = .returned (.bool true) ∧ J (k + 1) W' ∧ Kp W1 W') → J 0 W →
      CallsIn F (n - 1) P gf (#[.func (.yield l) #[] #[]] ++ lb) W fun e W' => (∃ v, e = .returned v) ∧ J xs.length W')
    (hKt : ∀ {A B C : World}, Kp A B → Kp B C → Kp A C) (hKb : ∀ (W : World) (l : Nat) (o o' : Obj), w.heap.size ≤ l → W.heap[l]? = some o → o.isCells = false → Kp W (W.putObj l o')) (hps : ∀ x, (encs x).size = ps.size)
    (I : Nat → World → Prop) (hI : OwnFrom w.heap.size I) (h0 : I 0 w)
    (hround : ∀ (l k : Nat) (x : α) (W : World) (K : Act → World → Prop), xs[k]? = some x → (∀ a1, (∀ W2, I k W2 → w.heap.size ≤ W2.heap.size → body.wpIn (F.inRound l) (n - 1 - 1) P (onPost w.heap.size Kp I (k + 1) W2) a1 W2) → K a1 W) →
      assign.wpIn (F.inRound l) (n - 1 - 1) P (Exit.then K (fun _ _ _ => False)) { tmps := (ps.zip (encs x)).foldl (fun t (p, v) => t.setIfInBounds p v) a.tmps, defers := [] } W)
    (hdone : ∀ (D : Nat) (W : World), w.heap.size ≤ D → I xs.length W → W.heap[D]? = some (.deferred (some [])) → Q .normal { a with defers := { target := .collected D, args := #[] } :: a.defers } W) :
    (Code.rangeFunc g ps assign body).wpIn F n P Q a w := by
  refine wpIn_rangeFunc fun fn hfn => ?_
  rw [hro]
  let rc : LoopState → Loop := fun st => { state := st, pending := none, fn, tmps := a.tmps, params := ps, assign, body, defers := w.heap.size }
  have hn1 : (w.alloc (.deferred (some []))).heap.size = w.heap.size + 1 := World.size_alloc _ _
  generalize hW1 : (w.alloc (.deferred (some []))).alloc (.loop (rc .ready)) = W1
  have hL1 : W1.heap[w.heap.size + 1]? = some (.loop (rc .ready)) := by rw [← hW1, ← hn1]; exact World.alloc_heap_new _ _
  have hK1 : W1.heap[w.heap.size]? = some (.deferred (some [])) := by rw [← hW1]; exact (Below.heap_alloc _ _ _ (by omega)).trans (World.alloc_heap_new _ _)
  have hI1 : I 0 W1 := by rw [← hW1]; exact hI.alloc _ (hI.alloc _ h0)
  have hb1 : Below w.heap.size w W1 := by rw [← hW1]; exact ((Below.refl _ w).alloc (Nat.le_refl _) _).alloc (by omega) _
  refine ⟨w.heap.size + 1, [{ target := .collected w.heap.size, args := #[] }], W1, { target := .fn (.func gf) lb, args := #[.func (.yield (w.heap.size + 1)) #[] #[]] }, W1, gf, #[.func (.yield (w.heap.size + 1)) #[] #[]] ++ lb, W1, by rw [← hW1]; exact run_enterLoop_outer _ _ _ _ _, ?_, ?_, ?_, fun _ => h1, ?_⟩
  · simp only [resolve, hg]
    simp [go_sem]
  · intro f' hf'
    simp [Target.leads] at hf'
    subst hf'
    exact hFg
  · simp [invoke, go_sem, eg]
  · clear hW1
    let Bk : LoopState → Nat → World → Prop := fun st k W => I k W ∧ W.heap[w.heap.size + 1]? = some (.loop (rc st)) ∧ W.heap[w.heap.size]? = some (.deferred (some []))
    have put : ∀ (st st' : LoopState) (k : Nat) (W : World), Bk st k W → Bk st' k (W.putObj (w.heap.size + 1) (.loop (rc st'))) := fun st st' k W h =>
      ⟨hI.putObj _ h.1 (by omega) h.2.1 rfl, World.putObj_heap_same (blk_lt h.2.1), (World.putObj_heap_other (by omega)).trans h.2.2⟩
    refine (hseq (w.heap.size + 1) (Bk .ready) W1 hb1 (fun k W h => ⟨hI k W W.drew none h.1 ⟨rfl, rfl, rfl, Nat.le_refl _, fun _ _ _ => rfl⟩ (fun r e => by cases e), h.2.1, h.2.2⟩) ?_ ⟨hI1, hL1, hK1⟩).mono ?_
    · intro k x W hx hB
      have hB2 := put .ready .busy k W hB
      refine ⟨fn, _, assign, body, run_yield (P := P) (args := encs x) hB.2.1 (hps x), roundIn_of_wpIn hfn (hround _ k x W _ hx fun a1 hbody => ⟨_, run_beginRound hB.2.1 rfl, wpIn_mono (hbody _ hB2.1 (Nat.le_of_lt (blk_lt hB2.2.2))) ?_⟩)⟩
      intro e a3 W3 hp
      cases e with
      | normal =>
        obtain ⟨hk3, hkp3, hi3⟩ := hp
        have hB3 : Bk .busy (k + 1) W3 := ⟨hi3, hk3.same _ _ (by omega) hB2.2.1 rfl, hk3.same _ _ (Nat.le_refl _) hB2.2.2 rfl⟩
        have hB4 := put .busy .ready (k + 1) W3 hB3
        exact ⟨_, _, run_endRound (P := P) none hB3.2.1, rfl, hB4, hKt (hKt (hKb _ _ _ _ (by omega) hB.2.1 rfl) hkp3) (hKb _ _ _ _ (by omega) hB3.2.1 rfl)⟩
      | ret => exact hp.elim
      | exit id => exact hp.elim
      | goto t => exact hp.elim
      | panic ch => exact hp.elim
      | outgrown => exact hp.elim
    · rintro e W2 ⟨⟨v, rfl⟩, hB⟩
      have hB2 := put .ready .exhausted _ W2 hB
      exact ⟨none, _, run_endLoop (P := P) hB.2.1 (by simp [rc]), hdone _ _ (Nat.le_refl _) hB2.1 hB2.2.2⟩
end
section
open Go.RowKit
theorem ownsRow_cells {w : World} {B s n q : Nat} {e : TypeId} {v : Value} {xs : List Value} (h : w.ownsRow B e s v n xs) (hq : v.ownBlock = some q) : ∃ c, w.heap[q]? = some (.cells c e (0, 0)) := by
  rcases h.2 with ⟨rfl, _⟩ | ⟨g, cap, cur, rfl, _, hg, _⟩
  · cases hq
  · cases hq; exact ⟨cur, hg⟩
theorem cell_blk {w : World} {g j : Nat} {cs : Array Value} {t : TypeId} {u : Value} (h : w.heap[g]? = some (.cells cs t (0, 0))) (hj : cs[j]? = some u) : w.cell? ⟨g, j, none⟩ = some u := by
  rw [cell_of_row w g j cs t (0, 0) h]; exact hj
theorem Tryz.infoBytes : (Tryz.prog.info? 44).map (fun i => (i.zero, i.size, i.bytes)) = some (some (.slice none 0 0), 1, 24) := by kernel_rfl
theorem own_u8s {w : World} {B : Nat} {v : Value} {xs : List UInt8} (h : w.ownsRow B 5 1 v xs.length (u8s xs)) : Own kbyte 5 w B v xs := by
  refine ⟨_, h, fun i x hx => ?_⟩
  show _ = _
  obtain ⟨hl, he⟩ := List.getElem?_eq_some_iff.1 hx
  have e : (u8s xs).drop (i * kbyte.sz) = (u8s xs).drop i := by show (u8s xs).drop (i * 1) = _; rw [Nat.mul_one]
  rw [e]
  show ((u8s xs).drop i).take 1 = _
  rw [List.drop_eq_getElem_cons (by rw [u8s_length]; exact hl)]
  simp [u8s, he]
/-- A list of bytes' lists, all of it the call's own, from block lo on. -/
structure BL (w : World) (lo : Nat) (dv : Value) (vs : List Value) (bss : List (List UInt8)) : Prop where
  own : w.ownsRow lo 44 1 dv bss.length vs
  row : ∀ (i : Nat) (v : Value) (bs : List UInt8), vs[i]? = some v → bss[i]? = some bs → w.ownsRow lo 5 1 v bs.length (u8s bs)
  ne : ∀ (i : Nat) (v : Value) (q : Nat), vs[i]? = some v → v.ownBlock = some q → dv.ownBlock ≠ some q
theorem BL.len {w : World} {lo : Nat} {dv : Value} {vs : List Value} {bss : List (List UInt8)} (h : BL w lo dv vs bss) : vs.length = bss.length := by
  have := h.own.1
  omega
theorem BL.nil (w : World) (lo : Nat) : BL w lo (.slice none 0 0) [] [] := ⟨World.ownsRow_nil _ _ _ _, by simp, by simp⟩
theorem BL.move {w w1 : World} {lo : Nat} {dv : Value} {vs : List Value} {bss : List (List UInt8)} (h : BL w lo dv vs bss)
    (hm : ∀ q c t, lo ≤ q → w.heap[q]? = some (.cells c t (0, 0)) → (dv.ownBlock = some q ∨ ∃ (i : Nat) (v : Value), vs[i]? = some v ∧ v.ownBlock = some q) → w1.heap[q]? = w.heap[q]?) : BL w1 lo dv vs bss := by
  have hlen := h.len
  refine ⟨ownsRow_move h.own fun q e => ?_, fun i v bs hv hb => ownsRow_move (h.row i v bs hv hb) fun q e => ?_, h.ne⟩
  · obtain ⟨c, hq⟩ := ownsRow_cells h.own e
    exact hm q c _ (h.own.lt q e).1 hq (.inl e)
  · obtain ⟨c, hq⟩ := ownsRow_cells (h.row i v bs hv hb) e
    exact hm q c _ ((h.row i v bs hv hb).lt q e).1 hq (.inr ⟨i, v, hv, e⟩)
theorem BL.grown {w w1 : World} {lo : Nat} {dv : Value} {vs : List Value} {bss : List (List UInt8)} {row : Option Nat} (h : BL w lo dv vs bss) (hg : w.grownBy w1 row)
    (hr : ∀ q, row = some q → dv.ownBlock ≠ some q ∧ ∀ (i : Nat) (v : Value), vs[i]? = some v → v.ownBlock ≠ some q) : BL w1 lo dv vs bss :=
  h.move fun q c t _ hq hf => hg.block q (blk_lt hq) fun e => by
    rcases hf with hf | ⟨i, v, hv, hf⟩
    · exact (hr q e.symm).1 hf
    · exact (hr q e.symm).2 i v hv hf
theorem BL.below {w w1 : World} {lo : Nat} {dv : Value} {vs : List Value} {bss : List (List UInt8)} (h : BL w lo dv vs bss) (hb : Below w.heap.size w w1) : BL w1 lo dv vs bss :=
  h.move fun q _ _ _ hq _ => hb.block q (blk_lt hq)
theorem BL.low {w : World} {lo lo1 : Nat} {dv : Value} {vs : List Value} {bss : List (List UInt8)} (h : BL w lo dv vs bss) (hl : lo1 ≤ lo) : BL w lo1 dv vs bss :=
  ⟨own_low h.own hl, fun i v bs hv hb => own_low (h.row i v bs hv hb) hl, h.ne⟩
/-- One list more, behind the others. -/
theorem BL.snoc {w w1 : World} {lo : Nat} {dv dv1 v : Value} {vs : List Value} {bss : List (List UInt8)} {bs : List UInt8} (h : BL w lo dv vs bss) (hv : w.ownsRow lo 5 1 v bs.length (u8s bs)) (hne : ∀ q, v.ownBlock = some q → dv.ownBlock ≠ some q)
    (ho : w1.ownsRow lo 44 1 dv1 (bss.length + 1) (vs ++ [v])) (hg : w.grownBy w1 dv.ownBlock) (hm : Moved w dv dv1) : BL w1 lo dv1 (vs ++ [v]) (bss ++ [bs]) := by
  have hlen := h.len
  have hkeep : ∀ (u : Value) (ys : List UInt8), w.ownsRow lo 5 1 u ys.length (u8s ys) → (∀ q, u.ownBlock = some q → dv.ownBlock ≠ some q) → w1.ownsRow lo 5 1 u ys.length (u8s ys) := fun u ys hu hn =>
    ownsRow_move hu fun q e => hg.block q (hu.lt q e).2 fun e' => hn q e e'.symm
  have hnew : ∀ (u : Value) (ys : List UInt8), w.ownsRow lo 5 1 u ys.length (u8s ys) → (∀ q, u.ownBlock = some q → dv.ownBlock ≠ some q) → ∀ q, u.ownBlock = some q → dv1.ownBlock ≠ some q := fun u ys hu hn q e => by
    rcases hm with hm | ⟨k, hm, hk⟩
    · rw [hm]; exact hn q e
    · rw [hm]; intro e2; have := (hu.lt q e).2; have := Option.some.inj e2; omega
  refine ⟨by rw [List.length_append]; exact ho, fun i u ys hu hy => ?_, fun i u q hu e => ?_⟩
  · rcases Nat.lt_or_ge i vs.length with hi | hi
    · rw [List.getElem?_append_left hi] at hu
      rw [List.getElem?_append_left (by omega)] at hy
      exact hkeep u ys (h.row i u ys hu hy) fun q e => h.ne i u q hu e
    · have hi' : i < (vs ++ [v]).length := (List.getElem?_eq_some_iff.1 hu).1
      rw [List.length_append, List.length_singleton] at hi'
      have hie : i = vs.length := by omega
      subst hie
      rw [List.getElem?_append_right (Nat.le_refl _)] at hu
      rw [List.getElem?_append_right (by omega), hlen] at hy
      simp at hu hy
      subst hu
      subst hy
      exact hkeep _ _ hv hne
  · rcases Nat.lt_or_ge i vs.length with hi | hi
    · rw [List.getElem?_append_left hi] at hu
      have hb : bss[i]? = some bss[i] := List.getElem?_eq_getElem (by omega)
      exact hnew u _ (h.row i u _ hu hb) (fun q e => h.ne i u q hu e) q e
    · have hi' : i < (vs ++ [v]).length := (List.getElem?_eq_some_iff.1 hu).1
      rw [List.length_append, List.length_singleton] at hi'
      have hie : i = vs.length := by omega
      subst hie
      rw [List.getElem?_append_right (Nat.le_refl _)] at hu
      simp at hu
      subst hu
      exact hnew _ _ hv hne q e
theorem row_bytes {w : World} {lo : Nat} {v : Value} {bs : List UInt8} (h : w.ownsRow lo 5 1 v bs.length (u8s bs)) : Sl kbyte w (fun q => lo ≤ q ∧ v.ownBlock = some q) v bs := by
  obtain ⟨A, c, rfl, h1, h2, h3⟩ := (own_u8s h).sl
  refine ⟨A, c, rfl, h1, h2, fun h0 => ?_⟩
  obtain ⟨b, o, rfl, hb, hl, hx⟩ := h3 h0
  exact ⟨b, o, rfl, ⟨hb, rfl⟩, hl, fun i x hx' => by
    obtain ⟨cs, hr, hc⟩ := hx i x hx'
    exact ⟨cs, hr, hc⟩⟩
theorem BL.sl {w : World} {lo : Nat} {dv : Value} {vs : List Value} {bss : List (List UInt8)} (h : BL w lo dv vs bss) : Sl (kslice kbyte) w (lo ≤ ·) dv bss := by
  have hlen := h.len
  refine Own.sl (e := 44) ⟨vs, h.own, fun i bs hb => ?_⟩
  obtain ⟨hl, he⟩ := List.getElem?_eq_some_iff.1 hb
  have e : vs.drop (i * (kslice kbyte).sz) = vs.drop i := by show vs.drop (i * 1) = _; rw [Nat.mul_one]
  rw [e]
  have hi : i < vs.length := by omega
  have hv : vs[i]? = some vs[i] := List.getElem?_eq_getElem hi
  refine ⟨vs[i], ?_, ?_⟩
  · show (vs.drop i).take 1 = _
    rw [List.drop_eq_getElem_cons hi]
    rfl
  · have hr := h.row i vs[i] bs hv hb
    refine (row_bytes hr).mono fun q hq => ⟨hq.1, fun e => h.ne i vs[i] q hv hq.2 e.symm⟩
/-- A part of a slice. -/
theorem Sl.part {α : Type} {K : Kind α} {w : World} {ok : Nat → Prop} {b o n c i m : Nat} {xs : List α} (h : Sl K w ok (.slice (some ⟨b, o, none⟩) n c) xs) (hm : i + m ≤ xs.length) : Sl K w ok (.slice (some ⟨b, o + i * K.sz, none⟩) m m) ((xs.drop i).take m) := by
  obtain ⟨A, c', e, h1, h2, h3⟩ := h
  cases e
  have hml : ((xs.drop i).take m).length = m := by simp; omega
  refine ⟨_, m, by rw [hml], by omega, by omega, fun h0 => ?_⟩
  obtain ⟨b', o', e, hb, hl, hx⟩ := h3 (by omega)
  cases e
  refine ⟨b, o + i * K.sz, rfl, hb, hl, fun j x hj => ?_⟩
  rw [hml] at h0
  have hjm : j < m := by
    have := (List.getElem?_eq_some_iff.1 hj).1
    omega
  rw [List.getElem?_take_of_lt hjm, List.getElem?_drop] at hj
  obtain ⟨cs, hr, hc⟩ := hx (i + j) x hj
  refine ⟨cs, hr, fun k u hk => ?_⟩
  rw [show o + i * K.sz + j * K.sz + k = o + (i + j) * K.sz + k by rw [Nat.add_mul]; omega]
  exact hc k u hk
theorem app_one_in {F : Fence} {nF : Nat} {P : Program} {ops : Array Oper} {rest : List Oper} {o : Oper} {a : Act} {Q : Exit → Act → World → Prop} {W : World} (B : Nat) (hgd : o.guard = none) (s x : Operand) (t e : TypeId) (z : Value) (size bytes : Nat)
    (ho : o.op = .call { callee := .builtin .append, args := #[s, x], argTypes := #[t, t] })
    (ht : P.underlying t = some (.slice e)) (hinfo : (P.info? e).map (fun i => (i.zero, i.size, i.bytes)) = some (some z, size, bytes)) (hz : z.cells.size = size) (hsz : 0 < size) (hb0 : 0 < bytes)
    (v : Value) (n : Nat) (xs ys : List Value) (hs : a.eval s = v) (hx : a.eval x = .slice (some ⟨W.heap.size, 0, none⟩) 1 1) (hy : ys.length = size) (h1 : ∀ u ∈ ys, u.oneCell' = true)
    (HO : W.ownsRow B e size v n xs) (hbase : B ≤ W.heap.size) (hl : (n + 1) * bytes ≤ 140737488355328)
    (h : ∀ v1 w1, w1.ownsRow B e size v1 (n + 1) (xs ++ ys) → W.grownBy w1 v.ownBlock → (v1.ownBlock = v.ownBlock ∨ v1.ownBlock = some (W.heap.size + 1)) → wpListIn F nF P ops Q rest (a.put o.dst v1) w1) :
    wpListIn F nF P ops Q (o :: rest) a (W.alloc (.cells ys.toArray e)) := by
  obtain ⟨i0, hi, hz0, hz1, hz2⟩ := info_parts hinfo
  have hlen : n + 1 ≤ 140737488355328 := Nat.le_trans (Nat.le_mul_of_pos_right _ hb0) hl
  refine wpListIn_append_own_at (W.alloc (.cells ys.toArray e)) hgd s x t ho B e i0 z size bytes ht hi hz0 hz1 hz2 hz hsz v n xs hs (HO.alloc _) ⟨W.heap.size, 0, none⟩ 1 1 ys hx (by omega)
    (World.news_of_block (cs := ys.toArray) (t := e) (fr := (0, 0)) (heap_alloc_new W _)) h1 (by simp only [maxLen]; omega) hl (by simp; omega) ?_
  intro v1 w1 hown hg _ hat
  exact h v1 w1 hown (World.grownBy.trans (World.grownBy_alloc W _ _) hg) (by simpa using hat)
theorem own_one {w : World} {B s n : Nat} {e : TypeId} {v : Value} {xs : List Value} (h : w.ownsRow B e s v n xs) : v.oneCell' = true := by
  rcases h.2 with ⟨rfl, _⟩ | ⟨g, cap, cur, rfl, _⟩ <;> rfl
theorem wp_noexit {P : Program} {c : Code} {K : Act → World → Prop} {Q : Exit → Act → World → Prop} {a : Act} {w : World} (h : c.wp P (Exit.then K fun _ _ _ => False) a w) : c.wp P (Exit.then K Q) a w :=
  wp_mono h fun e a w h => by cases e <;> first | exact h | exact h.elim
end
end Go.Proofs.YtgbladpoglhleaaGreatDoor
