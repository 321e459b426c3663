/- keep, kept and graph.Parts walked. No condition. -/
import Derived.Test.YtikgdhmnnnicmaaPl
import Derived.Test.YtikgdhmnnnicmaaMd
import Derived.Test.Ytikgdhmnnnicmaa2
namespace Go.Proofs.Ytikgdhmnnnicmaa
open Go.RowKit
theorem Try.info4 : (Try.prog.info? 4).map (fun i => (i.zero, i.size, i.bytes)) = some (some (.bool false), 1, 1) := by kernel_rfl
theorem own_bools {w : World} {B : Nat} {v : Value} {xs : List Bool} (h : w.ownsRow B 4 1 v xs.length (bools xs)) : Own kbool 4 w B v xs :=
  ⟨bools xs, h, fun i x hx => by
    have := flat_at (fun x : Bool => [Value.bool x]) 1 (fun _ => rfl) xs i x hx
    have e : ∀ ys : List Bool, bools ys = ys.flatMap fun x : Bool => [Value.bool x] := fun ys => by
      induction ys with
      | nil => rfl
      | cons y ys ih => rw [List.flatMap_cons, ← ih]; rfl
    rw [e]
    exact this⟩
def KeepPost (w : World) (xs : List Bool) (e : Ending) (w' : World) : Prop := ∃ v, e = .returned v ∧ w'.ownsRow w.heap.size 4 1 v xs.length (bools xs) ∧ Below w.heap.size w w'
theorem keepF_succ {cs : List Int} {k : Int} {i : Nat} (hi : i < cs.length) : keepF (cs.take (i + 1)) k = keepF (cs.take i) k ++ [decide (k ≤ cs[i])] := by
  unfold keepF
  rw [List.take_add_one, List.getElem?_eq_getElem hi, Option.toList_some, List.map_append]
  rfl
theorem bools_snoc (xs : List Bool) (x : Bool) : bools (xs ++ [x]) = bools xs ++ [.bool x] := by simp [bools]
set_option maxHeartbeats 1000000 in
set_option maxRecDepth 100000 in
theorem keep_any {w : World} {ok : Nat → Prop} {v : Value} {cs : List Int} (k : Int) (hs : Sl kint w ok v cs) (hl : cs.length ≤ 16777216) : Calls Try.prog 25 #[v, .int .i64 k] w (KeepPost w (keepF cs k)) := by
  obtain ⟨A, c, rfl, hc, hm⟩ := hs.slice
  have HS := Aside.mk hs
  have HR0 : Aside (w.ownsRow w.heap.size 4 1 (.slice none 0 0) (keepF (cs.take 0) k).length (bools (keepF (cs.take 0) k))) := ⟨World.ownsRow_nil _ _ _ _⟩
  clear hs
  go_enter Try.func25, Try.ntmps25
  go_wp2
  go_loopg [5, 6] cs.length (fun kq v5 iv wr => ∃ (i : Nat), Aside (i + kq = cs.length) ∧ iv = .int .i64 i ∧ Aside (Below w.heap.size w wr) ∧ Aside (wr.ownsRow w.heap.size 4 1 v5 (keepF (cs.take i) k).length (bools (keepF (cs.take i) k))))
  case atStart => exact ⟨0, ⟨by omega⟩, rfl, ⟨Below.refl _ _⟩, HR0⟩
  case round =>
    clear HR0
    obtain ⟨i, HI, rfl, HB, HR⟩ := hrel
    by_cases hi : i < cs.length
    · obtain ⟨b, o, e, k0⟩ := (HS.out.below HB.out).int i hi
      cases e
      have HT := Aside.mk (keepF_succ (k := k) hi)
      have hlen : (keepF (cs.take i) k).length ≤ 16777216 := by simp [keepF]; omega
      generalize cs[i] = x at *
      obtain ⟨bx, hbx⟩ : ∃ bx, bx = decide (k ≤ x) := ⟨_, rfl⟩
      have hbx2 : decide (k ≤ x) = bx := hbx.symm
      rw [hbx2] at HT
      clear hbx
      go_wp2_with (at_builtin; go_must (refine app_one w.heap.size rfl _ _ 47 4 (.bool false) 1 1 rfl Try.underlying47 Try.info4 rfl (by decide) (by decide) u5 (keepF (cs.take i) k).length _ [.bool bx] rfl rfl rfl (by simp [Value.oneCell']) HR.out HB.out.size (by omega) ?_; intro v1 w6 hown hg6 hat; have HB6 := Aside.mk (HB.out.grown hg6 HB.out.size fun q e => (HR.out.lt q e).1); have HO6 := Aside.mk hown; clear hown hg6 hat))
      go_roundg (cs.length - (i + 1))
      case measure => have := HI.out; omega
      case rel => exact ⟨i + 1, ⟨by omega⟩, by go_num, HB6, ⟨by rw [HT.out, bools_snoc, List.length_append]; exact HO6.out⟩⟩
    · have ht : cs.take i = cs := List.take_of_length_le (by omega)
      have HP : Aside (KeepPost w (keepF cs k) (.returned u5) wr) := ⟨_, rfl, by rw [← ht]; exact HR.out, HB.out⟩
      replace hi : cs.length ≤ i := by omega
      clear ht HR HB
      go_wp2
      go_ret
      exact HP.out
set_option maxHeartbeats 1000000 in
set_option maxRecDepth 100000 in
theorem kept_any {w : World} {ok : Nat → Prop} {v : Value} {kp : List Bool} (u : Nat) (hs : Sl kbool w ok v kp) : Calls Try.prog 52 #[v, .int .i64 u] w fun e w' => e = .returned (.bool (kp.getD u false)) ∧ w = w' := by
  obtain ⟨A, c, rfl, hc, hm⟩ := hs.slice
  by_cases hu : u < kp.length
  · obtain ⟨b, o, e, k0⟩ := hs.bool u hu
    cases e
    have hg : kp.getD u false = kp[u] := by rw [List.getD_eq_getElem?_getD, List.getElem?_eq_getElem hu]; rfl
    rw [hg]
    generalize kp[u] = x at *
    clear hs hg
    go_enter Try.func52, Try.ntmps52
    go_wp2
    go_ret
    exact ⟨rfl, rfl⟩
  · have hg : kp.getD u false = false := by rw [List.getD_eq_getElem?_getD, List.getElem?_eq_none (by omega)]; rfl
    rw [hg]
    replace hu : kp.length ≤ u := by omega
    clear hs hg
    go_enter Try.func52, Try.ntmps52
    go_wp2
    go_ret
    exact ⟨rfl, rfl⟩
end Go.Proofs.Ytikgdhmnnnicmaa
