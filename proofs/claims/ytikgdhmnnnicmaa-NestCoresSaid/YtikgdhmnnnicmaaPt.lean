/- The reference's Part walked: a search from a vertex on, the marks written in place. No condition. -/
import Derived.Test.YtikgdhmnnnicmaaTo
namespace Go.Proofs.Ytikgdhmnnnicmaa
open Go.RowKit
/-- The search's state in memory: the row of what was found is the call's own, the marks lie in block sb. -/
structure PS (w : World) (sb n : Nat) (wr : World) (seen : List Bool) (out : List Int) (v : Value) : Prop where
  own : wr.ownsRow w.heap.size 3 1 v out.length (ints out)
  marks : wr.heap[sb]? = some (.cells (bools seen).toArray 4 (0, 0))
  only : Only (· = sb) w wr
  len : seen.length = n
  le : out.length ≤ 16777216
  el : ∀ x ∈ out, 0 ≤ x ∧ x < n
def PartPost (w : World) (sb n : Nat) (fin : List Bool × List Int) (e : Ending) (w' : World) : Prop :=
  ∃ v, e = .returned v ∧ w'.ownsRow w.heap.size 3 1 v fin.2.length (ints fin.2) ∧ w'.heap[sb]? = some (.cells (bools fin.1).toArray 4 (0, 0)) ∧ Only (· = sb) w w' ∧ (∀ x ∈ fin.2, 0 ≤ x ∧ x < n) ∧ fin.1.length = n ∧ fin.2.length ≤ 16777216
section
variable {w wr : World} {sb n : Nat} {seen : List Bool} {os : List Int} {v : Value}
theorem PS.bit (h : PS w sb n wr seen os v) {u : Nat} (hu : u < n) : wr.cell? ⟨sb, u, none⟩ = some (.bool (seen.getD u false)) ∧ wr.frozen? ⟨sb, u, none⟩ = false := by
  have hl := h.len
  refine ⟨cell_blk h.marks ?_, by simp [World.frozen?, h.marks]⟩
  have : u < seen.length := by omega
  simp [bools, this]
theorem PS.place (h : PS w sb n wr seen os v) {i : Nat} {x : Int} (hi : os[i]? = some x) : ∃ g c, v = .slice (some ⟨g, 0, none⟩) os.length c ∧ wr.cell? ⟨g, i, none⟩ = some (.int .i64 x) := by
  have hlt := (List.getElem?_eq_some_iff.1 hi).1
  rcases h.own.2 with ⟨_, hn⟩ | ⟨g, cap, cur, rfl, _⟩
  · omega
  · refine ⟨g, cap, rfl, ?_⟩
    have := h.own.cells (g := g) rfl i (.int .i64 x) (by simp [ints, hi])
    rwa [addr_add, Nat.zero_add] at this
theorem PS.shape (h : PS w sb n wr seen os v) : ∃ A c, v = .slice A os.length c := by
  rcases h.own.2 with ⟨rfl, hn⟩ | ⟨g, cap, cur, rfl, _⟩
  · exact ⟨none, 0, by rw [hn]⟩
  · exact ⟨_, _, rfl⟩
/-- A mark is set. -/
theorem PS.set (h : PS w sb n wr seen os v) (hsb : sb < w.heap.size) (u : Nat) : PS w sb n (wr.setCell ⟨sb, u, none⟩ (.bool true)) (seen.set u true) os v := by
  have hst : ∀ k, k ≠ sb → (wr.setCell ⟨sb, u, none⟩ (.bool true)).heap[k]? = wr.heap[k]? := fun k hk => Below.heap_setCell _ _ _ _ hk
  refine ⟨ownsRow_move h.own fun k e => hst k (by have := (h.own.lt k e).1; omega), ?_, ⟨h.only.os, h.only.tape, h.only.output, by have := h.only.size; simpa using this, fun k hk hne => (hst k hne).trans (h.only.block k hk hne)⟩, by rw [List.length_set]; exact h.len, h.le, h.el⟩
  simp [World.setCell, Array.getElem?_modify, h.marks, bools, List.map_set]
/-- A vertex is laid behind. -/
theorem PS.app (h : PS w sb n wr seen os v) (hsb : sb < w.heap.size) {w6 : World} {v1 : Value} {u : Int} (hu : 0 ≤ u ∧ u < n) (hle : os.length < 16777216) (hown : w6.ownsRow w.heap.size 3 1 v1 (os.length + 1) (ints os ++ [.int .i64 u])) (hg : wr.grownBy w6 v.ownBlock) : PS w sb n w6 seen (os ++ [u]) v1 := by
  have hlow : ∀ k, k < w.heap.size → w6.heap[k]? = wr.heap[k]? := fun k hk => hg.block k (Nat.lt_of_lt_of_le hk h.only.size) fun e => by have := (h.own.lt k e.symm).1; omega
  refine ⟨by rw [ints_snoc', List.length_append]; exact hown, (hlow sb hsb).trans h.marks, ⟨hg.os.trans h.only.os, hg.tape.trans h.only.tape, hg.output.trans h.only.output, Nat.le_trans h.only.size hg.size, fun k hk hne => (hlow k hk).trans (h.only.block k hk hne)⟩, h.len, by simp; omega, fun x hx => ?_⟩
  rcases List.mem_append.1 hx with hx | hx
  · exact h.el x hx
  · rw [List.mem_singleton.1 hx]; exact hu
end
set_option maxHeartbeats 8000000 in
set_option maxRecDepth 100000 in
theorem Part_any {w : World} {ok ok2 : Nat → Prop} {tv cv : Value} {adj : List (List Int)} {cs : List Int} {n sb v : Nat} {k : Int} {seen : List Bool} {fin : List Bool × List Int} (ht : Sl (kslice kint) w ok tv adj) (hc : Sl kint w ok2 cv cs) (hok : ∀ q, ok q → q ≠ sb) (hok2 : ∀ q, ok2 q → q ≠ sb)
    (hal : adj.length = n) (hcl : cs.length = n) (hn : n ≤ 16777216) (hadj : ∀ l ∈ adj, ∀ u ∈ l, 0 ≤ u ∧ u < n) (hsb : sb < w.heap.size) (hmk : w.heap[sb]? = some (.cells (bools seen).toArray 4 (0, 0))) (hsl : seen.length = n) (hv : v < n) (hf : partF n adj cs k v seen = some fin) :
    Calls Try.prog 51 #[tv, cv, .int .i64 k, .int .i64 v, .slice (some ⟨sb, 0, none⟩) n n] w (PartPost w sb n fin) := by
  obtain ⟨A, c, rfl, hc1, hm1⟩ := ht.slice
  obtain ⟨A2, c2, rfl, hc2, hm2⟩ := hc.slice
  have HT : Aside (∀ W, Only (· = sb) w W → Sl (kslice kint) W ok (.slice A adj.length c) adj) := ⟨fun W hW => ht.step fun q h1 h2 => hW.block q h2 (hok q h1)⟩
  have HC : Aside (∀ W, Only (· = sb) w W → Sl kint W ok2 (.slice A2 cs.length c2) cs) := ⟨fun W hW => hc.step fun q h1 h2 => hW.block q h2 (hok2 q h1)⟩
  have HF := Aside.mk hf
  have HA := Aside.mk hadj
  have HSB := Aside.mk hsb
  have HN := Aside.mk hn
  have hmk0 : w.heap[sb]? = some (.cells (bools seen).toArray 4 (0, 0)) := hmk
  have hW0 : PS w sb n (w.alloc (.cells #[.int .i64 v] 3)) seen [(v : Int)] (.slice (some ⟨w.heap.size, 0, none⟩) 1 1) :=
    ⟨World.ownsRow_lit w _ 1 (Nat.le_refl _) (by decide) (by rfl), (Below.heap_alloc w _ sb hsb).trans hmk, ⟨rfl, rfl, rfl, by simp, fun q hq _ => Below.heap_alloc w _ q hq⟩, hsl, by simp, fun x hx => by rw [List.mem_singleton.1 hx]; omega⟩
  have HW := Aside.mk hW0
  obtain ⟨cb, fb⟩ := hW0.bit hv
  clear ht hc hok hok2 hf hadj hsb hmk hmk0 hW0 hn
  subst hal
  have HCL := Aside.mk hcl
  clear hcl hsl
  go_enter Try.func51, Try.ntmps51
  go_wp2
  have HW1 := Aside.mk (HW.out.set HSB.out v)
  clear HW cb fb
  generalize (w.alloc (.cells #[.int .i64 v] 3)).setCell ⟨sb, v, none⟩ (.bool true) = w1 at *
  go_loopg [11, 12] (adj.length + 1) (fun kq v11 iv wr => ∃ (i : Nat) (seen : List Bool) (out : List Int), iv = .int .i64 i ∧ Aside (i ≤ out.length) ∧ Aside (partG adj cs k kq i (seen, out) = some fin) ∧ Aside (PS w sb adj.length wr seen out v11))
  case atStart => exact ⟨0, _, _, rfl, ⟨Nat.zero_le _⟩, HF, HW1⟩
  case round =>
    clear HW1 HF
    obtain ⟨i, seen, out, rfl, HI, HG, HP⟩ := hrel
    obtain ⟨A3, c3, e3⟩ := HP.out.shape
    subst e3
    obtain ⟨f, rfl⟩ : ∃ f, gk = f + 1 := by
      cases gk with
      | zero => have := HG.out; simp [partG] at this
      | succ f => exact ⟨f, rfl⟩
    by_cases hi : i < out.length
    · have hg := HG.out
      simp only [partG, if_pos hi] at hg
      obtain ⟨a1, hg1, hg2⟩ := Option.bind_eq_some_iff.1 hg
      have hx0 : out[i]? = some out[i] := List.getElem?_eq_getElem hi
      have hgd : out.getD i 0 = out[i] := by rw [List.getD_eq_getElem?_getD, hx0]; rfl
      have hxr := HP.out.el out[i] (List.getElem_mem hi)
      rw [hgd] at hg1
      generalize out[i] = X at *
      obtain ⟨x, rfl⟩ := Int.eq_ofNat_of_zero_le hxr.1
      have hxn : x < adj.length := by omega
      rw [Int.toNat_natCast, List.getD_eq_getElem?_getD, List.getElem?_eq_getElem hxn] at hg1
      have HROW : Aside (∀ u ∈ adj[x], 0 ≤ u ∧ u < adj.length) := ⟨HA.out adj[x] (List.getElem_mem hxn)⟩
      have hg1 : adj[x].foldlM (visitF cs k) (seen, out) = some a1 := hg1
      have HTX : Aside (∀ W, Only (· = sb) w W → ∃ b o rv, A = some ⟨b, o, none⟩ ∧ W.cell? ⟨b, o + x, none⟩ = some rv ∧ Sl kint W ok rv adj[x]) := ⟨fun W hW => (HT.out W hW).row x hxn⟩
      have HX0 := Aside.mk hx0
      have HG1 := Aside.mk hg1
      have HG2 := Aside.mk hg2
      have HII := Aside.mk hi
      obtain ⟨g3, c3', e3, cx⟩ := HP.out.place hx0
      cases e3
      obtain ⟨b, o, rv, e, crow, hrow⟩ := HTX.out wr HP.out.only
      cases e
      obtain ⟨A4, c4, rfl, hc4, hm4⟩ := hrow.slice
      clear hg hgd hxr hg1 hg2 hx0 HG HI HT
      generalize adj[x] = us at *
      go_upto_region 7 with (fail)
      go_loopg [11, 13] us.length (fun kq v11 jv wr => ∃ (j : Nat) (seen : List Bool) (out : List Int), Aside (j + kq = us.length) ∧ jv = .int .i64 j ∧ Aside ((us.drop j).foldlM (visitF cs k) (seen, out) = some a1) ∧ Aside (out[i]? = some (x : Int)) ∧ Aside (PS w sb adj.length wr seen out v11))
      case atStart => exact ⟨0, seen, out, ⟨by omega⟩, rfl, ⟨by rw [List.drop_zero]; exact HG1.out⟩, HX0, HP⟩
      case round =>
        clear HP HG1 HX0 cx crow hrow HII
        obtain ⟨j, seen, out, HJ, rfl, HG1, HX0, HP⟩ := hrel
        obtain ⟨g3, c3, rfl, cx⟩ := HP.out.place HX0.out
        have hi : i < out.length := (List.getElem?_eq_some_iff.1 HX0.out).1
        obtain ⟨b', o', rv', e, crow, hrow⟩ := HTX.out wr HP.out.only
        cases e
        obtain ⟨A4', c4', rfl, hc4', hm4'⟩ := hrow.slice
        have hle := HP.out.le
        have HROW2 := Aside.mk hrow
        clear hrow
        by_cases hj : j < us.length
        · obtain ⟨bj, oj, e, crj⟩ := HROW2.out.int j hj
          cases e
          have hur := HROW.out us[j] (List.getElem_mem hj)
          have hg1 := HG1.out
          rw [List.drop_eq_getElem_cons hj, List.foldlM_cons] at hg1
          generalize us[j] = U at *
          obtain ⟨u, rfl⟩ := Int.eq_ofNat_of_zero_le hur.1
          have hun : u < adj.length := by omega
          obtain ⟨a', ha', hrest⟩ := Option.bind_eq_some_iff.1 hg1
          unfold visitF at ha'
          rw [Int.toNat_natCast] at ha'
          have hucs : u < cs.length := by rw [HCL.out]; exact hun
          obtain ⟨bc, oc, e, cc⟩ := (HC.out wr HP.out.only).int u hucs
          cases e
          have hcg : cs.getD u (-1) = cs[u] := by rw [List.getD_eq_getElem?_getD, List.getElem?_eq_getElem hucs]; rfl
          rw [hcg] at ha'
          obtain ⟨cb, fb⟩ := HP.out.bit hun
          have HREST := Aside.mk hrest
          have HA' := Aside.mk ha'
          generalize cs[u] = y at *
          clear hg1 HG1 hcg hrest hur
          have hjn : us.length - (j + 1) < gk := by have := HJ.out; omega
          have HJN := Aside.mk hjn
          clear hjn
          cases hbit : seen.getD u false with
          | true =>
            rw [hbit] at cb
            rw [hbit, if_neg (by simp)] at ha'
            have ha' : (seen, out) = a' := by simpa using ha'
            have HR2 : Aside ((us.drop (j + 1)).foldlM (visitF cs k) (seen, out) = some a1) := ⟨by rw [ha']; exact HREST.out⟩
            clear hbit ha' HREST HA' cc
            go_wp2
            go_roundg (us.length - (j + 1))
            case measure => exact HJN.out
            case rel => exact ⟨j + 1, seen, out, ⟨by omega⟩, by go_num, HR2, HX0, HP⟩
          | false =>
            rw [hbit] at cb
            by_cases hk : k ≤ y
            · have dk : decide (k ≤ y) = true := decide_eq_true hk
              rw [hbit, if_pos ⟨rfl, hk⟩] at ha'
              have hlt : out.length < 16777216 := by
                refine Decidable.byContradiction fun q => ?_
                rw [if_neg q] at ha'
                cases ha'
              rw [if_pos hlt] at ha'
              have ha' : (seen.set u true, out ++ [(u : Int)]) = a' := by simpa using ha'
              have HR2 : Aside ((us.drop (j + 1)).foldlM (visitF cs k) (seen.set u true, out ++ [(u : Int)]) = some a1) := ⟨by rw [ha']; exact HREST.out⟩
              have HLT := Aside.mk hlt
              have HUN : Aside ((0 : Int) ≤ (u : Int) ∧ (u : Int) < adj.length) := ⟨by omega⟩
              clear hbit ha' HREST HA' hk
              go_upto_region 12 with (fail)
              have HP2 := Aside.mk (HP.out.set HSB.out u)
              clear HP cb fb cc crj crow cx
              generalize wr.setCell ⟨sb, u, none⟩ (.bool true) = w2 at *
              have hsz : w.heap.size ≤ w2.heap.size := HP2.out.only.size
              go_wp2_with (at_builtin; go_must (refine app_one w.heap.size rfl _ _ 23 3 (.int .i64 0) 1 8 rfl Try.underlying23 Try.info3 rfl (by decide) (by decide) (.slice (some ⟨g3, 0, none⟩) out.length c3) out.length _ [.int .i64 (u : Int)] rfl rfl rfl (by simp [Value.oneCell']) HP2.out.own hsz (by omega) ?_; intro v1 w6 hown hg6 hat; have HP3 := Aside.mk (HP2.out.app HSB.out HUN.out HLT.out hown hg6); clear hown hg6 hat hsz))
              go_roundg (us.length - (j + 1))
              case measure => exact HJN.out
              case rel => exact ⟨j + 1, _, _, ⟨by omega⟩, by go_num, HR2, ⟨by rw [List.getElem?_append_left hi]; exact HX0.out⟩, HP3⟩
            · have dk : decide (k ≤ y) = false := decide_eq_false hk
              rw [hbit, if_neg (fun q => hk q.2)] at ha'
              have ha' : (seen, out) = a' := by simpa using ha'
              have HR2 : Aside ((us.drop (j + 1)).foldlM (visitF cs k) (seen, out) = some a1) := ⟨by rw [ha']; exact HREST.out⟩
              clear hbit ha' HREST HA' hk
              go_wp2
              go_roundg (us.length - (j + 1))
              case measure => exact HJN.out
              case rel => exact ⟨j + 1, seen, out, ⟨by omega⟩, by go_num, HR2, HX0, HP⟩
        · have hg1 := HG1.out
          rw [List.drop_of_length_le (by omega)] at hg1
          have hg1 : (seen, out) = a1 := by simpa using hg1
          have HG3 : Aside (partG adj cs k f (i + 1) (seen, out) = some fin) := ⟨by rw [hg1]; exact HG2.out⟩
          have hii : i + 1 ≤ out.length := hi
          replace hj : us.length ≤ j := by omega
          clear hg1 HG1
          go_wp2
          go_roundg f
          case measure => omega
          case rel => exact ⟨i + 1, seen, out, by go_num, ⟨hii⟩, HG3, HP⟩
    · have hg := HG.out
      simp only [partG, if_neg hi, Option.some.injEq] at hg
      have HQ : Aside (PartPost w sb adj.length fin (.returned (.slice A3 out.length c3)) wr) := ⟨_, rfl, by rw [← hg]; exact HP.out.own, by rw [← hg]; exact HP.out.marks, HP.out.only, by rw [← hg]; exact HP.out.el, by rw [← hg]; exact HP.out.len, by rw [← hg]; exact HP.out.le⟩
      replace hi : out.length ≤ i := by omega
      clear hg HG HP HI
      go_wp2
      go_ret
      exact HQ.out
end Go.Proofs.Ytikgdhmnnnicmaa
