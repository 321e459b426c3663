/- A range over a function whose values are known one by one: the body is walked at each of them alone, at its own place. No condition. -/
import Derived.RangeFuncNested
import Derived.RangeFuncBound
import Derived.RangeFuncCalls
import Derived.RangeFuncLeaves
import Derived.Test.YtikgdhmnnnicmaaDoorI
namespace Go.Proofs.YtikgdhmnnnicmaaDoor
open Go.RowKit Go.Shelf
attribute [local go_sem] Oper.semAt_some
/-- How a round of the body is left: it goes on. -/
def onPost (B : Nat) (Kp : World → World → Prop) (I : Nat → World → Prop) (k : Nat) (W : World) : Exit → Act → World → Prop
  | .normal, _, W' => KeepsFrom B W W' ∧ Kp W W' ∧ I k W'
  | _, _, _ => False
theorem range_known {F : Fence} {n : Nat} {P : Program} {α : Type} {g : Operand} {ps : Array Tmp} {assign body : Code} {Q : Exit → Act → World → Prop} {a : Act} {w : World}
    (hro : F.round = none) (h1 : 1 ≤ n) {gf : Nat} {lb : Array Value} (hg : a.eval g = .func (.func gf) #[] lb) (hFg : F.fn gf) (eg : ∀ args w, (callFunc gf args).run P w = .ok (.enter gf args) w)
    {encs : α → Array Value} {Kp : World → World → Prop} (xs : List α)
    (hseq : ∀ (l : Nat) (J : Nat → World → Prop) (W : World), Below w.heap.size w W →
      (∀ k x W1, xs[k]? = some x → J k W1 → YieldAt F (n - 1 - 1) P l (encs x) W1 fun e W' => e = .returned (.bool true) ∧ J (k + 1) W' ∧ Kp W1 W') → J 0 W →
      CallsIn F (n - 1) P gf (#[.func (.yield l) #[] #[]] ++ lb) W fun e W' => (∃ v, e = .returned v) ∧ J xs.length W')
    (hKt : ∀ {A B C : World}, Kp A B → Kp B C → Kp A C) (hKb : ∀ (W : World) (l : Nat) (o o' : Obj), w.heap.size ≤ l → W.heap[l]? = some o → o.isCells = false → Kp W (W.putObj l o')) (hps : ∀ x, (encs x).size = ps.size)
    (I : Nat → World → Prop) (hI : OwnFrom w.heap.size I) (h0 : I 0 w)
    (hround : ∀ (l k : Nat) (x : α) (W : World) (K : Act → World → Prop), xs[k]? = some x → (∀ a1, (∀ W2, I k W2 → w.heap.size ≤ W2.heap.size → body.wpIn (F.inRound l) (n - 1 - 1) P (onPost w.heap.size Kp I (k + 1) W2) a1 W2) → K a1 W) →
      assign.wpIn (F.inRound l) (n - 1 - 1) P (Exit.then K (fun _ _ _ => False)) { tmps := (ps.zip (encs x)).foldl (fun t (p, v) => t.setIfInBounds p v) a.tmps, defers := [] } W)
    (hdone : ∀ (D : Nat) (W : World), w.heap.size ≤ D → I xs.length W → W.heap[D]? = some (.deferred (some [])) → Q .normal { a with defers := { target := .collected D, args := #[] } :: a.defers } W) :
    (Code.rangeFunc g ps assign body).wpIn F n P Q a w := by
  refine wpIn_rangeFunc fun fn hfn => ?_
  rw [hro]
  let rc : LoopState → Loop := fun st => { state := st, pending := none, fn, tmps := a.tmps, params := ps, assign, body, defers := w.heap.size }
  have hn1 : (w.alloc (.deferred (some []))).heap.size = w.heap.size + 1 := World.size_alloc _ _
  generalize hW1 : (w.alloc (.deferred (some []))).alloc (.loop (rc .ready)) = W1
  have hL1 : W1.heap[w.heap.size + 1]? = some (.loop (rc .ready)) := by rw [← hW1, ← hn1]; exact World.alloc_heap_new _ _
  have hK1 : W1.heap[w.heap.size]? = some (.deferred (some [])) := by rw [← hW1]; exact (Below.heap_alloc _ _ _ (by omega)).trans (World.alloc_heap_new _ _)
  have hI1 : I 0 W1 := by rw [← hW1]; exact hI.alloc _ (hI.alloc _ h0)
  have hb1 : Below w.heap.size w W1 := by rw [← hW1]; exact ((Below.refl _ w).alloc (Nat.le_refl _) _).alloc (by omega) _
  refine ⟨w.heap.size + 1, [{ target := .collected w.heap.size, args := #[] }], W1, { target := .fn (.func gf) lb, args := #[.func (.yield (w.heap.size + 1)) #[] #[]] }, W1, gf, #[.func (.yield (w.heap.size + 1)) #[] #[]] ++ lb, W1, by rw [← hW1]; exact run_enterLoop_outer _ _ _ _ _, ?_, ?_, ?_, fun _ => h1, ?_⟩
  · simp only [resolve, hg]
    simp [go_sem]
  · intro f' hf'
    simp [Target.leads] at hf'
    subst hf'
    exact hFg
  · simp [invoke, go_sem, eg]
  · clear hW1
    let Bk : LoopState → Nat → World → Prop := fun st k W => I k W ∧ W.heap[w.heap.size + 1]? = some (.loop (rc st)) ∧ W.heap[w.heap.size]? = some (.deferred (some []))
    have put : ∀ (st st' : LoopState) (k : Nat) (W : World), Bk st k W → Bk st' k (W.putObj (w.heap.size + 1) (.loop (rc st'))) := fun st st' k W h =>
      ⟨hI.putObj _ h.1 (by omega) h.2.1 rfl, World.putObj_heap_same (blk_lt h.2.1), (World.putObj_heap_other (by omega)).trans h.2.2⟩
    refine (hseq (w.heap.size + 1) (Bk .ready) W1 hb1 ?_ ⟨hI1, hL1, hK1⟩).mono ?_
    · intro k x W hx hB
      have hB2 := put .ready .busy k W hB
      refine ⟨fn, _, assign, body, run_yield (P := P) (args := encs x) hB.2.1 (hps x), roundIn_of_wpIn hfn (hround _ k x W _ hx fun a1 hbody => ⟨_, run_beginRound hB.2.1 rfl, wpIn_mono (hbody _ hB2.1 (Nat.le_of_lt (blk_lt hB2.2.2))) ?_⟩)⟩
      intro e a3 W3 hp
      cases e with
      | normal =>
        obtain ⟨hk3, hkp3, hi3⟩ := hp
        have hB3 : Bk .busy (k + 1) W3 := ⟨hi3, hk3.same _ _ (by omega) hB2.2.1 rfl, hk3.same _ _ (Nat.le_refl _) hB2.2.2 rfl⟩
        have hB4 := put .busy .ready (k + 1) W3 hB3
        exact ⟨_, _, run_endRound (P := P) none hB3.2.1, rfl, hB4, hKt (hKt (hKb _ _ _ _ (by omega) hB.2.1 rfl) hkp3) (hKb _ _ _ _ (by omega) hB3.2.1 rfl)⟩
      | ret => exact hp.elim
      | exit id => exact hp.elim
      | goto t => exact hp.elim
      | panic ch => exact hp.elim
      | outgrown => exact hp.elim
    · rintro e W2 ⟨⟨v, rfl⟩, hB⟩
      have hB2 := put .ready .exhausted _ W2 hB
      exact ⟨none, _, run_endLoop (P := P) hB.2.1 (by simp [rc]), hdone _ _ (Nat.le_refl _) hB2.1 hB2.2.2⟩
set_option maxRecDepth 100000 in
set_option maxHeartbeats 2000000 in
theorem back_in (F : Fence) (n : Nat) (hf : F.fn 40) (hro : F.round = none) (hn : 1 ≤ n) (l Bs : Nat) (L : Nat → Prop) (hL : L Bs) (A : Option Addr) (c : Nat) (zs : List Int) (J : Nat → World → Prop)
    (hY : ∀ k x W, (back zs zs.length)[k]? = some x → J k W → YieldAt F (n - 1) Tryd.prog l #[.int .i64 (x.1 : Int), .int .i64 x.2] W fun e W' => e = .returned (.bool true) ∧ J (k + 1) W' ∧ Stay L W W')
    (W : World) (hBs : W.cell? ⟨Bs, 0, none⟩ = some (.slice A zs.length c)) (hs : Sl kint W L (.slice A zs.length c) zs) (h0 : J 0 W) :
    CallsIn F n Tryd.prog 40 #[.func (.yield l) #[] #[], .pointer (some ⟨Bs, 0, none⟩)] W fun e W' => (∃ v, e = .returned v) ∧ J zs.length W' := by
  have hsb : zs.length ≤ 9223372036854775807 := by obtain ⟨_, _, e, a, b⟩ := hs.slice; omega
  refine callsIn_of_wp Tryd.func40 rfl hf ?_ hro
  simp only [Tryd.ntmps40, List.size_toArray, List.length_cons, List.length_nil, Nat.reduceAdd, Nat.reduceSub, Array.replicate_succ, Array.replicate_zero, List.push_toArray, List.append_toArray, List.nil_append, List.cons_append]
  gi_wp2
  gi_loopw [3] (fun i wr => ∃ r : Nat, r ≤ zs.length ∧ i = .int .i64 ((r : Int) - 1) ∧ J (zs.length - r) wr ∧ Stay L W wr)
    (fun i _ => match i with | .int _ q => (q + 1).toNat | _ => 0)
  case atStart => exact ⟨zs.length, Nat.le_refl _, by go_num, by simpa using h0, fun q _ hq => ⟨rfl, hq⟩⟩
  case round =>
    obtain ⟨r, hr, rfl, hJs, hnx⟩ := hrel
    have hBl : Bs < W.heap.size := by
      unfold World.cell? at hBs
      cases hh : W.heap[Bs]? with
      | none => simp [hh] at hBs
      | some o => exact blk_lt hh
    have hBw : wr.cell? ⟨Bs, 0, none⟩ = some (.slice A zs.length c) := (World.cell?_of_block (hnx Bs hL hBl).1).trans hBs
    cases r with
    | zero =>
      gi_wp2
      go_end0
      exact ⟨⟨_, rfl⟩, by simpa using hJs⟩
    | succ j =>
      obtain ⟨b, o, e, hc⟩ := (hs.step (w' := wr) fun q hq hlt => (hnx q hq hlt).1).int j (by omega)
      subst e
      have e1 : ((j + 1 : Nat) : Int) - 1 = j := by omega
      rw [e1]
      have hjl : j < zs.length := by omega
      have hx : (back zs zs.length)[zs.length - (j + 1)]? = some (j, zs[j]) := by
        have e3 : zs.length - 1 - (zs.length - (j + 1)) = j := by omega
        have e4 : zs.length - (j + 1) < zs.length := by omega
        simp only [back, List.getElem?_map, List.getElem?_range e4, Option.map_some, e3, List.getD_eq_getElem?_getD, List.getElem?_eq_getElem hjl, Option.getD_some]
      obtain ⟨fn, tmps, assign, body, hy, hR⟩ := hY _ (j, zs[j]) wr hx hJs
      have e5 : zs.length - (j + 1) + 1 = zs.length - j := by omega
      rw [e5] at hR
      dsimp only at hy
      clear hx e5 e1
      generalize zs[j] = x at *
      gi_wp2
      refine hR.mono ?_
      rintro e W3 ⟨rfl, hJ3, hk3⟩
      gi_wp2
      go_roundw
      case rel => exact ⟨j, by omega, by go_num, hJ3, fun q hq hlt => ⟨((hk3 q hq (hnx q hq hlt).2).1).trans (hnx q hq hlt).1, (hk3 q hq (hnx q hq hlt).2).2⟩⟩
      case measure => simp
theorem backward_known {F : Fence} {n : Nat} (hf : F.fn 40) (hro : F.round = none) (hn : 1 ≤ n) {Bs : Nat} {L : Nat → Prop} (hL : L Bs) {sv : Value} {zs : List Int} {w : World} (hc : w.cell? ⟨Bs, 0, none⟩ = some sv) (hs : Sl kint w L sv zs)
    (l : Nat) (J : Nat → World → Prop) (W : World) (hb : Below w.heap.size w W)
    (hY : ∀ k x W1, (back zs zs.length)[k]? = some x → J k W1 → YieldAt F (n - 1) Tryd.prog l #[.int .i64 (x.1 : Int), .int .i64 x.2] W1 fun e W' => e = .returned (.bool true) ∧ J (k + 1) W' ∧ Stay L W1 W') (h0 : J 0 W) :
    CallsIn F n Tryd.prog 40 (#[.func (.yield l) #[] #[]] ++ #[.pointer (some ⟨Bs, 0, none⟩)]) W fun e W' => (∃ v, e = .returned v) ∧ J (back zs zs.length).length W' := by
  rw [back_length]
  obtain ⟨A, c, rfl, _, _⟩ := hs.slice
  exact back_in F n hf hro hn l Bs L hL A c zs J hY W (bcell hb hc) (hs.below hb) h0
end Go.Proofs.YtikgdhmnnnicmaaDoor
