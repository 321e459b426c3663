/- The program's iterators: maps.Keys under slices.Sorted; slices.Backward. No condition. -/
import Derived.Test.YtikgdhmnnnicmaaDoorR
import Derived.Test.YtikgdhmnnnicmaaDoorM
import Derived.Shelf.SlIterI.Nil
import Derived.RangeFuncNested
import Derived.RangeFuncBound
import Derived.RangeFuncCalls
import Derived.RangeFuncLeaves
import Derived.OwnWalkIn
import Derived.TacticsInMore
import Derived.LoopNIn
import Derived.LoopIn
namespace Go.Proofs.YtikgdhmnnnicmaaDoor
open Go.RowKit Go.Maps Go.Sort Go.Shelf
attribute [local go_sem] Oper.semAt_some
/-- A reader of elements that asks nothing. -/
def anyElem (_ : Value) : Option (DataW Unit × List MemPlace) := some (.lit (.bool true), [])
theorem mapIs_owns {w : World} {b : Nat} {m : List (Int × Value)} (h : MapIs (Value.int .i64) w b m) (hwf : ∀ x ∈ m.map (·.1), (Lit.int .i64 x).wf = true) (hl : m.length ≤ maxLen) :
    ∃ D : DataW Unit, w.ownsMap Tryd.prog 3 anyElem b m.length D ∧ (intKeys D).Perm (m.map (·.1)) ∧ Maps.size D = m.length := by
  obtain ⟨es, clock, hb, he, hn, hs, hc⟩ := h
  have hsz : es.size = m.length := by have := congrArg List.length he; simpa using this
  have hrd : ∀ x ∈ es.toList, ∃ q ∈ m, x.key = .int .i64 q.1 ∧ Go.WideElems.rd Tryd.prog 3 anyElem x = some (.int .i64 q.1, .lit (.bool true)) := fun x hx => by
    have h1 : (x.key, x.val) ∈ m.map fun p => (Value.int .i64 p.1, p.2) := he ▸ List.mem_map_of_mem (f := fun e : MapEntry => (e.key, e.val)) hx
    obtain ⟨q, hq, e⟩ := List.mem_map.1 h1
    simp only [Prod.mk.injEq] at e
    refine ⟨q, hq, e.1.symm, ?_⟩
    unfold Go.WideElems.rd
    rw [← e.1, keyOf_int_mk Tryd.underlying3 (hwf _ (List.mem_map_of_mem hq))]
    rfl
  have hkeys : es.toList.map (fun x => x.key) = m.map fun p => Value.int .i64 p.1 := by
    have := congrArg (List.map Prod.fst) he
    simpa [List.map_map, Function.comp_def] using this
  refine ⟨_, ⟨es, clock, hb, ⟨by omega, ⟨hc, hs, ?_⟩, fun x hx => ?_⟩, by omega, rfl⟩, ?_, ?_⟩
  · show (es.toList.map (fun x => x.key)).Nodup
    rw [hkeys, show (m.map fun p => Value.int .i64 p.1) = (m.map (·.1)).map (Value.int .i64) by rw [List.map_map]; rfl]
    exact List.Pairwise.map _ (fun a b hab e => hab (by injection e)) hn
  · obtain ⟨q, _, _, h1⟩ := hrd x hx
    exact ⟨_, h1⟩
  · simp only [intKeys]
    refine ((Go.WideShapes.sorted_perm _).map _).trans (List.Perm.of_eq ?_)
    rw [List.map_map]
    have h1 : es.toList.map ((fun p : Lit × DataW Unit => Go.intOf p.1) ∘ Go.WideElems.rg Tryd.prog 3 anyElem) = (es.toList.map fun x => x.key).map (fun v => match v with | .int _ n => n | _ => 0) := by
      rw [List.map_map]
      refine List.map_congr_left fun x hx => ?_
      obtain ⟨q, _, hk, h1⟩ := hrd x hx
      simp only [Function.comp_apply, Go.WideElems.rg, h1, hk, Option.getD_some]
      rfl
    rw [h1, hkeys, List.map_map]
    rfl
  · simp only [Maps.size]
    rw [(Go.WideShapes.sorted_perm _).length_eq]
    simpa using hsz
theorem sorted_perm2 {xs ys : List Int} (h : xs.Perm ys) : sorted xs = sorted ys := by
  have tr : ∀ a b c : Int, decide (a ≤ b) = true → decide (b ≤ c) = true → decide (a ≤ c) = true := by simp; omega
  have tt : ∀ a b : Int, (decide (a ≤ b) || decide (b ≤ a)) = true := by simp; omega
  refine List.Perm.eq_of_pairwise (le := fun a b => decide (a ≤ b) = true) (fun a b _ _ h1 h2 => by simp at h1 h2; omega) (List.pairwise_mergeSort tr tt xs) (List.pairwise_mergeSort tr tt ys) ?_
  exact (List.mergeSort_perm xs _).trans (h.trans (List.mergeSort_perm ys _).symm)
theorem keysOf_any (mb : Option Nat) (w : World) : Calls Tryd.prog 31 #[.map mb] w fun e w' => e = .returned (.func (.func 39) #[] #[.pointer (some ⟨w.heap.size, 0, none⟩)]) ∧ w' = w.alloc (.cells #[.map mb] 65) :=
  (callsIn_wide (n := 5)).1 (AnyZI.keys_in Tryd.keysA Fence.wide 5 trivial rfl mb w)
theorem sorts_any (m : Nat) : AnyZI.SortsIn Tryd.prog Tryd.sortedA_ren Fence.wide m :=
  ⟨fun blk off cap ss W hH hblk hsz => callsIn_wide.2 (Tryd.slices_Sort_int blk off cap ss W hH hblk hsz), fun p cap W => callsIn_wide.2 (Tryd.slices_Sort_int_none p cap W)⟩
theorem sortedKeys_any {w : World} {b kb : Nat} {m : List (Int × Value)} (h : MapIs (Value.int .i64) w b m) (hwf : ∀ x ∈ m.map (·.1), (Lit.int .i64 x).wf = true) (hl : m.length ≤ 16777216) (hkb : w.cell? ⟨kb, 0, none⟩ = some (.map (some b))) (hlt : kb < w.heap.size) :
    Calls Tryd.prog 30 #[.func (.func 39) #[] #[.pointer (some ⟨kb, 0, none⟩)]] w fun e w' =>
      ∃ v, e = .returned v ∧ w'.ownsRow w.heap.size 3 1 v (sorted (m.map (·.1))).length (ints (sorted (m.map (·.1)))) ∧ Below w.heap.size w w' := by
  obtain ⟨D, ho, hp, hsz⟩ := mapIs_owns h hwf (by simp only [maxLen]; omega)
  have hseq : SeqGives Fence.wide 2 Tryd.prog 39 #[.pointer (some ⟨kb, 0, none⟩)] encZ (fun ss => ss.Perm (intKeys D)) (Maps.size D) w :=
    AnyZI.keys_gives (ρ := Tryd.keysA_ren) { Tryd.keysA with } Fence.wide _ trivial rfl (by omega) kb b _ D w hlt hkb ho
  have cS := AnyZI.sorted_in Tryd.sortedA Fence.wide 5 trivial trivial trivial trivial rfl (by omega) (sorts_any _) (enters_of Tryd.func37 (by kernel_rfl) rfl) 39 #[.pointer (some ⟨kb, 0, none⟩)] trivial (enters_of Tryd.func39 (by kernel_rfl) rfl) _ _ (by rw [hsz]; simp only [maxLen]; omega) (by rw [hsz]; omega) _ hseq
  refine ((callsIn_wide (n := 5)).1 cS).mono ?_
  rintro e w' ⟨v, ss, rfl, hS, hrow, _, hb⟩
  have e1 : ss.mergeSort (fun x y => decide (x ≤ y)) = sorted (m.map (·.1)) := sorted_perm2 (hS.trans hp)
  rw [e1] at hrow
  refine ⟨v, rfl, ?_, hb⟩
  rw [show (sorted (m.map (·.1))).length = ss.length by rw [sorted_length, ← (hS.trans hp).length_eq]]
  exact hrow
/-- These blocks lie as they lay. -/
def Stay (L : Nat → Prop) (W W' : World) : Prop := ∀ q, L q → q < W.heap.size → W'.heap[q]? = W.heap[q]? ∧ q < W'.heap.size
/-- The first k of what comes backwards. -/
def back (zs : List Int) (k : Nat) : List (Nat × Int) := (List.range k).map fun j => (zs.length - 1 - j, zs.getD (zs.length - 1 - j) 0)
theorem back_succ (zs : List Int) (k : Nat) : back zs (k + 1) = back zs k ++ [(zs.length - 1 - k, zs.getD (zs.length - 1 - k) 0)] := by simp [back, List.range_succ]
theorem back_length (zs : List Int) (k : Nat) : (back zs k).length = k := by simp [back]
theorem backward_any (A : Option Addr) (n c : Nat) (w : World) : Calls Tryd.prog 32 #[.slice A n c] w fun e w' => e = .returned (.func (.func 40) #[] #[.pointer (some ⟨w.heap.size, 0, none⟩)]) ∧ w' = w.alloc (.cells #[.slice A n c] 48) := by
  go_enter Tryd.func32, Tryd.ntmps32
  go_wp2
  go_ret
  exact ⟨rfl, rfl⟩
end Go.Proofs.YtikgdhmnnnicmaaDoor
