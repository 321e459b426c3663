/- slices.Chunk of nodes, by fifty: its function and its values, one by one. No condition. -/
import Derived.Test.YtikgdhmnnnicmaaDoorFr
namespace Go.Proofs.YtikgdhmnnnicmaaDoor
open Go.RowKit Go.Shelf
attribute [local go_sem] Oper.semAt_some
theorem chunk_any (A : Option Addr) (n c : Nat) (w : World) : Calls Tryd.prog 22 #[.slice A n c, .int .i64 50] w fun e w' => e = .returned (.func (.func 36) #[] #[.pointer (some ⟨w.heap.size, 0, none⟩), .pointer (some ⟨w.heap.size + 1, 0, none⟩)]) ∧ w' = (w.alloc (.cells #[.slice A n c] 22)).alloc (.cells #[.int .i64 50] 3) := by
  go_enter Tryd.func22, Tryd.ntmps22
  go_wp2
  go_ret
  exact ⟨by simp, rfl⟩
/-- How many chunks. -/
def cnt (n : Nat) : Nat := (n + 49) / 50
def chunkV (b o n j : Nat) : Value := .slice (some ⟨b, o + 50 * j * 4, none⟩) (min 50 (n - 50 * j)) (min 50 (n - 50 * j))
set_option maxRecDepth 100000 in
set_option maxHeartbeats 2000000 in
theorem chunk_in (F : Fence) (n : Nat) (hf : F.fn 36) (hro : F.round = none) (hn : 1 ≤ n) (l Bs Bn : Nat) (L : Nat → Prop) (hL : L Bs) (hLn : L Bn) (A : Option Addr) (b o m c : Nat) (hA : 0 < m → A = some ⟨b, o, none⟩) (hm : m ≤ 16777216) (hmc : m ≤ c) (J : Nat → World → Prop) (hJd : ∀ k W, J k W → J k W.drew)
    (hY : ∀ k W, k < cnt m → J k W → YieldAt F (n - 1) Tryd.prog l #[chunkV b o m k] W fun e W' => e = .returned (.bool true) ∧ J (k + 1) W' ∧ Stay L W W')
    (W : World) (hBs : W.cell? ⟨Bs, 0, none⟩ = some (.slice A m c)) (hBn : W.cell? ⟨Bn, 0, none⟩ = some (.int .i64 50)) (h0 : J 0 W) :
    CallsIn F n Tryd.prog 36 #[.func (.yield l) #[] #[], .pointer (some ⟨Bs, 0, none⟩), .pointer (some ⟨Bn, 0, none⟩)] W fun e W' => (∃ v, e = .returned v) ∧ J (cnt m) W' := by
  refine callsIn_of_wp Tryd.func36 rfl hf ?_ hro
  simp only [Tryd.ntmps36, List.size_toArray, List.length_cons, List.length_nil, Nat.reduceAdd, Nat.reduceSub, Array.replicate_succ, Array.replicate_zero, List.push_toArray, List.append_toArray, List.nil_append, List.cons_append]
  gi_wp2
  gi_loopw [4] (fun i wr => ∃ r : Nat, r ≤ cnt m ∧ i = .int .i64 (50 * (r : Int)) ∧ J r wr ∧ Stay L W wr)
    (fun i _ => match i with | .int _ q => (50 * (cnt m : Int) - q).toNat | _ => 0)
  case atStart => exact ⟨0, Nat.zero_le _, by go_num, h0, fun q _ hq => ⟨rfl, hq⟩⟩
  case round =>
    obtain ⟨r, hr, rfl, hJs, hnx⟩ := hrel
    have hBl : Bs < W.heap.size := by
      unfold World.cell? at hBs
      cases hh : W.heap[Bs]? with
      | none => simp [hh] at hBs
      | some o => exact blk_lt hh
    have hBm : Bn < W.heap.size := by
      unfold World.cell? at hBn
      cases hh : W.heap[Bn]? with
      | none => simp [hh] at hBn
      | some o => exact blk_lt hh
    have hBw : wr.cell? ⟨Bs, 0, none⟩ = some (.slice A m c) := (World.cell?_of_block (hnx Bs hL hBl).1).trans hBs
    have hBx : wr.cell? ⟨Bn, 0, none⟩ = some (.int .i64 50) := (World.cell?_of_block (hnx Bn hLn hBm).1).trans hBn
    by_cases hlt : r < cnt m
    · have h1 : 50 * r < m := by unfold cnt at hlt; omega
      obtain rfl := hA (by omega)
      obtain ⟨fn, tmps, assign, body, hy, hR⟩ := hY r wr.drew hlt (hJd r wr hJs)
      have hq : min (50 : Int) ((m - 50 * r : Nat) : Int) = ((min 50 (m - 50 * r) : Nat) : Int) := by omega
      have hcv : chunkV b o m r = .slice (some ⟨b, o + 50 * r * 4, none⟩) (min 50 (m - 50 * r)) (min 50 (m - 50 * r)) := rfl
      have hq1 : 50 * r + min 50 (m - 50 * r) ≤ m := by omega
      have hq2 : min 50 (m - 50 * r) ≤ 50 := by omega
      have hq3 : 0 < min 50 (m - 50 * r) := by omega
      rw [hcv] at hy
      clear hcv
      gi_wp2
      gi_region
      all_goals (clear hq; generalize min 50 (m - 50 * r) = q at *)
      all_goals gi_wp2
      all_goals (refine hR.mono ?_; rintro e W3 ⟨rfl, hJ3, hk3⟩)
      all_goals (have hB3 : W3.cell? ⟨Bn, 0, none⟩ = some (.int .i64 50) := (World.cell?_of_block (hk3 Bn hLn (hnx Bn hLn hBm).2).1).trans hBx)
      all_goals gi_wp2
      all_goals go_roundw
      all_goals first
        | exact ⟨r + 1, by omega, by go_num, hJ3, fun q' hq' hlt' => ⟨((hk3 q' hq' (hnx q' hq' hlt').2).1).trans (hnx q' hq' hlt').1, (hk3 q' hq' (hnx q' hq' hlt').2).2⟩⟩
        | (simp; omega)
    · have hre : r = cnt m := by omega
      have h1 : m ≤ 50 * r := by unfold cnt at hre; omega
      rw [hre] at hJs
      have h2 : decide ((50 * (r : Int)) < (m : Int)) = false := decide_eq_false (by omega)
      gi_wp2
      go_end0
      exact ⟨⟨_, rfl⟩, hJs⟩
theorem chunk_known {F : Fence} {n : Nat} (hf : F.fn 36) (hro : F.round = none) (hn : 1 ≤ n) {Bs Bn : Nat} {L : Nat → Prop} (hL : L Bs) (hLn : L Bn) {A : Option Addr} {b o m c : Nat} (hA : 0 < m → A = some ⟨b, o, none⟩) (hm : m ≤ 16777216) (hmc : m ≤ c) {w : World}
    (hBs : w.cell? ⟨Bs, 0, none⟩ = some (.slice A m c)) (hBn : w.cell? ⟨Bn, 0, none⟩ = some (.int .i64 50))
    (l : Nat) (J : Nat → World → Prop) (W : World) (hb : Below w.heap.size w W) (hJd : ∀ k W, J k W → J k W.drew)
    (hY : ∀ k x W1, (List.range (cnt m))[k]? = some x → J k W1 → YieldAt F (n - 1) Tryd.prog l #[chunkV b o m x] W1 fun e W' => e = .returned (.bool true) ∧ J (k + 1) W' ∧ Stay L W1 W') (h0 : J 0 W) :
    CallsIn F n Tryd.prog 36 (#[.func (.yield l) #[] #[]] ++ #[.pointer (some ⟨Bs, 0, none⟩), .pointer (some ⟨Bn, 0, none⟩)]) W fun e W' => (∃ v, e = .returned v) ∧ J (List.range (cnt m)).length W' := by
  rw [List.length_range]
  exact chunk_in F n hf hro hn l Bs Bn L hL hLn A b o m c hA hm hmc J hJd (fun k W hk hJ => hY k k W (by rw [List.getElem?_range hk]) hJ) W (bcell hb hBs) (bcell hb hBn) h0
/-- 'range_known' where the function draws an order of evaluation: its invariant bears a draw. -/
theorem range_known_d {F : Fence} {n : Nat} {P : Program} {α : Type} {g : Operand} {ps : Array Tmp} {assign body : Code} {Q : Exit → Act → World → Prop} {a : Act} {w : World}
    (hro : F.round = none) (h1 : 1 ≤ n) {gf : Nat} {lb : Array Value} (hg : a.eval g = .func (.func gf) #[] lb) (hFg : F.fn gf) (eg : ∀ args w, (callFunc gf args).run P w = .ok (.enter gf args) w)
    {encs : α → Array Value} {Kp : World → World → Prop} (xs : List α)
    (hseq : ∀ (l : Nat) (J : Nat → World → Prop) (W : World), Below w.heap.size w W → (∀ k W, J k W → J k W.drew) →
      (∀ k x W1, xs[k]? = some x → J k W1 → YieldAt F (n - 1 - 1) P l (encs x) W1 fun e W' => e = .returned (.bool true) ∧ J (k + 1) W' ∧ Kp W1 W') → J 0 W →
      CallsIn F (n - 1) P gf (#[.func (.yield l) #[] #[]] ++ lb) W fun e W' => (∃ v, e = .returned v) ∧ J xs.length W')
    (hKt : ∀ {A B C : World}, Kp A B → Kp B C → Kp A C) (hKb : ∀ (W : World) (l : Nat) (o o' : Obj), w.heap.size ≤ l → W.heap[l]? = some o → o.isCells = false → Kp W (W.putObj l o')) (hps : ∀ x, (encs x).size = ps.size)
    (I : Nat → World → Prop) (hI : OwnFrom w.heap.size I) (h0 : I 0 w)
    (hround : ∀ (l k : Nat) (x : α) (W : World) (K : Act → World → Prop), xs[k]? = some x → (∀ a1, (∀ W2, I k W2 → w.heap.size ≤ W2.heap.size → body.wpIn (F.inRound l) (n - 1 - 1) P (onPost w.heap.size Kp I (k + 1) W2) a1 W2) → K a1 W) →
      assign.wpIn (F.inRound l) (n - 1 - 1) P (Exit.then K (fun _ _ _ => False)) { tmps := (ps.zip (encs x)).foldl (fun t (p, v) => t.setIfInBounds p v) a.tmps, defers := [] } W)
    (hdone : ∀ (D : Nat) (W : World), w.heap.size ≤ D → I xs.length W → W.heap[D]? = some (.deferred (some [])) → Q .normal { a with defers := { target := .collected D, args := #[] } :: a.defers } W) :
    (Code.rangeFunc g ps assign body).wpIn F n P Q a w := by
  refine wpIn_rangeFunc fun fn hfn => ?_
  rw [hro]
  let rc : LoopState → Loop := fun st => { state := st, pending := none, fn, tmps := a.tmps, params := ps, assign, body, defers := w.heap.size }
  have hn1 : (w.alloc (.deferred (some []))).heap.size = w.heap.size + 1 := World.size_alloc _ _
  generalize hW1 : (w.alloc (.deferred (some []))).alloc (.loop (rc .ready)) = W1
  have hL1 : W1.heap[w.heap.size + 1]? = some (.loop (rc .ready)) := by rw [← hW1, ← hn1]; exact World.alloc_heap_new _ _
  have hK1 : W1.heap[w.heap.size]? = some (.deferred (some [])) := by rw [← hW1]; exact (Below.heap_alloc _ _ _ (by omega)).trans (World.alloc_heap_new _ _)
  have hI1 : I 0 W1 := by rw [← hW1]; exact hI.alloc _ (hI.alloc _ h0)
  have hb1 : Below w.heap.size w W1 := by rw [← hW1]; exact ((Below.refl _ w).alloc (Nat.le_refl _) _).alloc (by omega) _
  refine ⟨w.heap.size + 1, [{ target := .collected w.heap.size, args := #[] }], W1, { target := .fn (.func gf) lb, args := #[.func (.yield (w.heap.size + 1)) #[] #[]] }, W1, gf, #[.func (.yield (w.heap.size + 1)) #[] #[]] ++ lb, W1, by rw [← hW1]; exact run_enterLoop_outer _ _ _ _ _, ?_, ?_, ?_, fun _ => h1, ?_⟩
  · simp only [resolve, hg]
    simp [go_sem]
  · intro f' hf'
    simp [Target.leads] at hf'
    subst hf'
    exact hFg
  · simp [invoke, go_sem, eg]
  · clear hW1
    let Bk : LoopState → Nat → World → Prop := fun st k W => I k W ∧ W.heap[w.heap.size + 1]? = some (.loop (rc st)) ∧ W.heap[w.heap.size]? = some (.deferred (some []))
    have put : ∀ (st st' : LoopState) (k : Nat) (W : World), Bk st k W → Bk st' k (W.putObj (w.heap.size + 1) (.loop (rc st'))) := fun st st' k W h =>
      ⟨hI.putObj _ h.1 (by omega) h.2.1 rfl, World.putObj_heap_same (blk_lt h.2.1), (World.putObj_heap_other (by omega)).trans h.2.2⟩
    refine (hseq (w.heap.size + 1) (Bk .ready) W1 hb1 (fun k W h => ⟨hI k W W.drew none h.1 ⟨rfl, rfl, rfl, Nat.le_refl _, fun _ _ _ => rfl⟩ (fun r e => by cases e), h.2.1, h.2.2⟩) ?_ ⟨hI1, hL1, hK1⟩).mono ?_
    · intro k x W hx hB
      have hB2 := put .ready .busy k W hB
      refine ⟨fn, _, assign, body, run_yield (P := P) (args := encs x) hB.2.1 (hps x), roundIn_of_wpIn hfn (hround _ k x W _ hx fun a1 hbody => ⟨_, run_beginRound hB.2.1 rfl, wpIn_mono (hbody _ hB2.1 (Nat.le_of_lt (blk_lt hB2.2.2))) ?_⟩)⟩
      intro e a3 W3 hp
      cases e with
      | normal =>
        obtain ⟨hk3, hkp3, hi3⟩ := hp
        have hB3 : Bk .busy (k + 1) W3 := ⟨hi3, hk3.same _ _ (by omega) hB2.2.1 rfl, hk3.same _ _ (Nat.le_refl _) hB2.2.2 rfl⟩
        have hB4 := put .busy .ready (k + 1) W3 hB3
        exact ⟨_, _, run_endRound (P := P) none hB3.2.1, rfl, hB4, hKt (hKt (hKb _ _ _ _ (by omega) hB.2.1 rfl) hkp3) (hKb _ _ _ _ (by omega) hB3.2.1 rfl)⟩
      | ret => exact hp.elim
      | exit id => exact hp.elim
      | goto t => exact hp.elim
      | panic ch => exact hp.elim
      | outgrown => exact hp.elim
    · rintro e W2 ⟨⟨v, rfl⟩, hB⟩
      have hB2 := put .ready .exhausted _ W2 hB
      exact ⟨none, _, run_endLoop (P := P) hB.2.1 (by simp [rc]), hdone _ _ (Nat.le_refl _) hB2.1 hB2.2.2⟩
end Go.Proofs.YtikgdhmnnnicmaaDoor
