/- graph.Parts walked: every graph, every list of what is kept. No condition. -/
import Derived.Test.YtikgdhmnnnicmaaKp
import Derived.Test.YtikgdhmnnnicmaaNt
namespace Go.Proofs.Ytikgdhmnnnicmaa
open Go.RowKit
/-- The numbers of the parts lie in block ob. -/
structure OB (w : World) (ob n : Nat) (wr : World) (out : List Int) : Prop where
  blk : wr.heap[ob]? = some (.cells (ints out).toArray 3 (0, 0))
  len : out.length = n
  below : Below w.heap.size w wr
  obB : w.heap.size ≤ ob
  sz : ob + 1 ≤ wr.heap.size
theorem OB.set {w wr : World} {ob n : Nat} {out : List Int} (h : OB w ob n wr out) (x : Nat) (y : Int) (hx : x < n) : OB w ob n (wr.setCell ⟨ob, x, none⟩ (.int .i64 y)) (out.set x y) :=
  ⟨(ints_blk h.blk (by rw [h.len]; exact hx)).2.2 y, by rw [List.length_set]; exact h.len, h.below.setCell h.obB _, h.obB, by have := h.sz; simpa using this⟩
theorem OB.step {w wr w' : World} {ob n : Nat} {out : List Int} (h : OB w ob n wr out) (hb : Below wr.heap.size wr w') : OB w ob n w' out :=
  ⟨bblk hb h.blk, h.len, bthen h.below h.below.size hb, h.obB, Nat.le_trans h.sz hb.size⟩
theorem OB.grown {w wr w' : World} {ob n : Nat} {out : List Int} {row : Option Nat} (h : OB w ob n wr out) (hg : wr.grownBy w' row) (hr : ∀ q, row = some q → ob + 1 ≤ q) : OB w ob n w' out :=
  ⟨(hg.block ob (by have := h.sz; omega) (fun e => by have := hr ob e.symm; omega)).trans h.blk, h.len, h.below.grown hg h.below.size (fun q e => by have := hr q e; have := h.obB; omega), h.obB, Nat.le_trans h.sz hg.size⟩
/-- The last place of a row is left out. -/
theorem own_pop {w : World} {B g c m : Nat} {xs : List Int} (h : w.ownsRow B 3 1 (.slice (some ⟨g, 0, none⟩) (m + 1) c) (m + 1) (ints xs)) : w.ownsRow B 3 1 (.slice (some ⟨g, 0, none⟩) m c) m (ints (xs.take m)) := by
  have hl := h.1
  rcases h.2 with ⟨_, hn⟩ | ⟨g', cap, cur, e, hb, hg, h1, h2, h3, h4⟩
  · omega
  · cases e
    rw [ints_length] at hl
    refine ⟨by rw [ints_length, List.length_take]; omega, .inr ⟨g, c, cur, rfl, hb, hg, by omega, h2, h3, ?_⟩⟩
    have : ints (xs.take m) = (ints xs).take m := by simp [ints]
    rw [this, ← h4, List.take_take]
    congr 1
    omega
set_option maxHeartbeats 8000000 in
set_option maxRecDepth 100000 in
theorem Parts_any {w : World} {ok ok2 : Nat → Prop} {gv kv : Value} {n : Nat} {adj : List (List Int)} {kp : List Bool} {parts : List Int} (hG : GraphIs w ok gv n adj) (hk : Sl kbool w ok2 kv kp) (hal : adj.length = n) (hn : n ≤ 16777216) (hadj : ∀ l ∈ adj, ∀ u ∈ l, 0 ≤ u ∧ u < n) (hf : partsP n adj kp = some parts) :
    Calls Try.prog 24 #[gv, kv] w (IntsPost w parts) := by
  obtain ⟨gb, mv, tv, rfl, hok, hgb, ht⟩ := hG
  obtain ⟨A, c, rfl, hc1, hm1⟩ := ht.slice
  obtain ⟨A2, c2, rfl, hc2, hm2⟩ := hk.slice
  have HT : Aside (∀ W, Below w.heap.size w W → Sl (kslice kint) W ok (.slice A adj.length c) adj) := ⟨fun W hW => ht.below hW⟩
  have HK : Aside (∀ W, Below w.heap.size w W → Sl kbool W ok2 (.slice A2 kp.length c2) kp) := ⟨fun W hW => hk.below hW⟩
  have HGB : Aside (∀ W, Below w.heap.size w W → W.cell? ⟨gb, 0, none⟩ = some (.int .i64 n) ∧ W.cell? ⟨gb, 2, none⟩ = some (.slice A adj.length c)) := ⟨fun W hW => ⟨cell_blk (bblk hW hgb) rfl, cell_blk (bblk hW hgb) rfl⟩⟩
  have HF := Aside.mk hf
  have HA := Aside.mk hadj
  subst hal
  have hmk := run_make_row' (P := Try.prog) 23 3 (.int .i64 0) 8 Try.underlying23 Try.info3 rfl .i64 .i64 adj.length (by omega) (by omega)
  obtain ⟨g0, g2⟩ := HGB.out w (Below.refl _ _)
  have hO0 : OB w w.heap.size adj.length (w.alloc (.cells (madeCells #[.int .i64 0] adj.length) 3)) (List.replicate 0 (-1) ++ List.replicate (adj.length - 0) 0) :=
    ⟨by rw [heap_alloc_new, toList_made_ints]; rfl, by simp, (Below.refl _ w).alloc (Nat.le_refl _) _, Nat.le_refl _, by simp⟩
  have HO0 := Aside.mk hO0
  clear ht hk hgb hf hadj hO0 hok
  go_enter Try.func24, Try.ntmps24
  go_wp2
  obtain ⟨ob, hob⟩ : ∃ ob, ob = w.heap.size := ⟨_, rfl⟩
  rw [← hob] at HO0 ⊢
  generalize w.alloc (.cells (madeCells #[.int .i64 0] adj.length) 3) = w1 at *
  have HOB := Aside.mk hob
  clear hob hmk g0 g2
  go_loopg [19] adj.length (fun kq v19 wr => ∃ (i : Nat), Aside (i + kq = adj.length) ∧ v19 = .int .i64 i ∧ Aside (OB w ob adj.length wr (List.replicate i (-1) ++ List.replicate (adj.length - i) 0)))
  case atStart => exact ⟨0, ⟨by omega⟩, rfl, HO0⟩
  case round =>
    clear HO0
    obtain ⟨i, HI, rfl, HO⟩ := hrel
    by_cases hi : i < adj.length
    · obtain ⟨ci, fi, _⟩ := ints_blk HO.out.blk (x := i) (by rw [HO.out.len]; exact hi)
      have HO2 : Aside (OB w ob adj.length (wr.setCell ⟨ob, i, none⟩ (.int .i64 (-1))) (List.replicate (i + 1) (-1) ++ List.replicate (adj.length - (i + 1)) 0)) := ⟨by
        have h1 := HO.out.set i (-1) hi
        have e : (List.replicate i (-1 : Int) ++ List.replicate (adj.length - i) 0).set i (-1) = List.replicate (i + 1) (-1) ++ List.replicate (adj.length - (i + 1)) 0 := by
          rw [List.set_append_right _ _ (by simp), List.length_replicate, Nat.sub_self, show adj.length - i = (adj.length - (i + 1)) + 1 by omega, List.replicate_succ, List.set_cons_zero, List.replicate_succ', List.append_assoc]
          rfl
        rw [e] at h1
        exact h1⟩
      clear HO
      go_wp2
      go_roundg (adj.length - (i + 1))
      case measure => have := HI.out; omega
      case rel => exact ⟨i + 1, ⟨by omega⟩, by go_num, HO2⟩
    · have hin : i = adj.length := by have := HI.out; omega
      have HO1 : Aside (OB w ob adj.length wr (List.replicate adj.length (-1))) := ⟨by
        have h := HO.out
        rw [hin, Nat.sub_self, List.replicate_zero, List.append_nil] at h
        exact h⟩
      replace hi : adj.length ≤ i := by omega
      clear HO hin
      have HF2 : Aside (((List.range adj.length).drop 0).foldlM (stepP adj.length adj kp) (List.replicate adj.length (-1)) = some parts) := ⟨by rw [List.drop_zero]; exact HF.out⟩
      have d20 : decide (i < adj.length) = false := decide_eq_false (by omega)
      go_upto_region 8 with (fail)
      go_loopg [28] adj.length (fun kq v28 wr => ∃ (v : Nat) (out : List Int), Aside (v + kq = adj.length) ∧ v28 = .int .i64 v ∧ Aside (((List.range adj.length).drop v).foldlM (stepP adj.length adj kp) out = some parts) ∧ Aside (OB w ob adj.length wr out))
      case atStart => exact ⟨0, _, ⟨by omega⟩, rfl, HF2, HO1⟩
      case round =>
        clear HO1 HF2
        obtain ⟨v, out, HV, rfl, HF2, HO⟩ := hrel
        by_cases hv : v < adj.length
        · have hf := HF2.out
          rw [List.drop_eq_getElem_cons (by simpa using hv), List.getElem_range, List.foldlM_cons] at hf
          obtain ⟨out1, hs1, hs2⟩ := Option.bind_eq_some_iff.1 hf
          have HS2 := Aside.mk hs2
          unfold stepP at hs1
          obtain ⟨ci, fi, _⟩ := ints_blk HO.out.blk (x := v) (by rw [HO.out.len]; exact hv)
          have HVN : Aside (adj.length - (v + 1) < gk) := ⟨by have := HV.out; omega⟩
          generalize out.getD v 0 = x at *
          clear hf HF2 hs2
          by_cases h0 : 0 ≤ x
          · have d0 : decide (0 ≤ x) = true := decide_eq_true h0
            rw [if_pos (.inl h0)] at hs1
            have hs1 : out = out1 := by simpa using hs1
            have HF2 : Aside (((List.range adj.length).drop (v + 1)).foldlM (stepP adj.length adj kp) out = some parts) := ⟨by rw [hs1]; exact HS2.out⟩
            clear hs1 HS2 h0
            go_wp2
            go_roundg (adj.length - (v + 1))
            case measure => exact HVN.out
            case rel => exact ⟨v + 1, out, ⟨by omega⟩, by go_num, HF2, HO⟩
          · have d0 : decide (0 ≤ x) = false := decide_eq_false h0
            have hkept := kept_any v (HK.out wr HO.out.below)
            cases hb : kp.getD v false with
            | false =>
              rw [hb] at hkept
              rw [if_pos (.inr hb)] at hs1
              have hs1 : out = out1 := by simpa using hs1
              have HF2 : Aside (((List.range adj.length).drop (v + 1)).foldlM (stepP adj.length adj kp) out = some parts) := ⟨by rw [hs1]; exact HS2.out⟩
              clear hs1 HS2 hb h0
              go_wp2_with fail
              refine hkept.mono ?_
              clear hkept
              rintro e w' ⟨rfl, rfl⟩
              go_wp2
              go_roundg (adj.length - (v + 1))
              case measure => exact HVN.out
              case rel => exact ⟨v + 1, out, ⟨by omega⟩, by go_num, HF2, HO⟩
            | true =>
              rw [hb] at hkept
              rw [if_neg (fun q => q.elim h0 (fun q => by rw [hb] at q; cases q))] at hs1
              have HD := Aside.mk hs1
              clear hs1 hb h0
              go_wp2_with fail
              refine hkept.mono ?_
              clear hkept
              rintro e w' ⟨rfl, rfl⟩
              go_upto_region 12 with (fail)
              have HO2 := Aside.mk (HO.out.set v (v : Int) hv)
              clear HO ci fi
              generalize wr.setCell ⟨ob, v, none⟩ (.int .i64 (v : Int)) = w2 at *
              go_upto_region 13 with (fail)
              have hb2 := (Below.refl w2.heap.size w2).alloc (Nat.le_refl _) (.cells #[.int .i64 (v : Int)] 3)
              have HO3 := Aside.mk (HO2.out.step hb2)
              have HTd : Aside ((w2.alloc (.cells #[.int .i64 (v : Int)] 3)).ownsRow (ob + 1) 3 1 (.slice (some ⟨w2.heap.size, 0, none⟩) 1 1) [(v : Int)].length (ints [(v : Int)])) := ⟨World.ownsRow_lit w2 _ 1 HO2.out.sz (by decide) (by rfl)⟩
              have HEl : Aside ([(v : Int)].length ≤ 16777216 ∧ ∀ y ∈ [(v : Int)], 0 ≤ y ∧ y < adj.length) := ⟨by simp, fun y hy => by rw [List.mem_singleton.1 hy]; omega⟩
              clear hb2 HO2
              generalize w2.alloc (.cells #[.int .i64 (v : Int)] 3) = w3 at *
              go_loopg [8] (adj.length + 1) (fun kq v8 wr => ∃ (out todo : List Int), Aside (dfsP adj kp v kq (out, todo) = some out1) ∧ Aside (OB w ob adj.length wr out) ∧ Aside (wr.ownsRow (ob + 1) 3 1 v8 todo.length (ints todo)) ∧ Aside (todo.length ≤ 16777216 ∧ ∀ y ∈ todo, 0 ≤ y ∧ y < adj.length))
              case atStart => exact ⟨_, _, HD, HO3, HTd, HEl⟩
              case round =>
                clear HD HO3 HTd HEl
                obtain ⟨out, todo, HD, HO, HTd, HEl⟩ := hrel
                obtain ⟨f, rfl⟩ : ∃ f, gk = f + 1 := by
                  cases gk with
                  | zero => have := HD.out; simp [dfsP] at this
                  | succ f => exact ⟨f, rfl⟩
                obtain ⟨A8, c8, e8⟩ : ∃ A c, u8 = .slice A todo.length c := by
                  rcases HTd.out.2 with ⟨e, hn⟩ | ⟨g, cap, cur, e, _⟩
                  · exact ⟨none, 0, by rw [hn]; exact e⟩
                  · exact ⟨_, _, e⟩
                subst e8
                have hd := HD.out
                simp only [dfsP] at hd
                by_cases hz : todo.length = 0
                · rw [if_pos hz] at hd
                  have hd : out = out1 := by simpa using hd
                  have HF2 : Aside (((List.range adj.length).drop (v + 1)).foldlM (stepP adj.length adj kp) out = some parts) := ⟨by rw [hd]; exact HS2.out⟩
                  rw [hz]
                  clear hd HD HS2 HTd HEl hz
                  go_wp2
                  go_roundg (adj.length - (v + 1))
                  case measure => exact HVN.out
                  case rel => exact ⟨v + 1, out, ⟨by omega⟩, by go_num, HF2, HO⟩
                · rw [if_neg hz] at hd
                  obtain ⟨m, hm⟩ : ∃ m, todo.length = m + 1 := ⟨todo.length - 1, by omega⟩
                  have hlt : m < todo.length := by omega
                  rw [hm, Nat.add_sub_cancel] at hd
                  have hgd : todo.getD m 0 = todo[m] := by rw [List.getD_eq_getElem?_getD, List.getElem?_eq_getElem hlt]; rfl
                  have hxr := HEl.out.2 todo[m] (List.getElem_mem hlt)
                  rw [hgd] at hd
                  have hown := HTd.out
                  rw [hm] at hown
                  obtain ⟨g8, e⟩ : ∃ g, A8 = some ⟨g, 0, none⟩ := by
                    rcases hown.2 with ⟨_, hn⟩ | ⟨g, cap, cur, e, _⟩
                    · omega
                    · cases e; exact ⟨g, rfl⟩
                  subst e
                  have hcap : m + 1 ≤ c8 ∧ c8 ≤ 9223372036854775807 := by
                    rcases hown.2 with ⟨_, hn⟩ | ⟨g, cap, cur, e, _, _, q1, q2, _⟩
                    · omega
                    · cases e; exact ⟨q1, by simpa only [maxLen] using q2⟩
                  have ct : wr.cell? ⟨g8, m, none⟩ = some (.int .i64 todo[m]) := by
                    have h1 := hown.cells (g := g8) rfl m (.int .i64 todo[m]) (by simp [ints, hlt])
                    rwa [addr_add, Nat.zero_add] at h1
                  have HPop := Aside.mk (own_pop hown)
                  have HEl2 : Aside ((todo.take m).length ≤ 16777216 ∧ ∀ y ∈ todo.take m, 0 ≤ y ∧ y < adj.length) := ⟨by have := HEl.out.1; simp; omega, fun y hy => HEl.out.2 y (List.mem_of_mem_take hy)⟩
                  have HPL : Aside ((todo.take m).length = m) := ⟨by simp; omega⟩
                  have hm16 : m ≤ 16777216 := by have := HEl.out.1; omega
                  generalize todo[m] = X at *
                  obtain ⟨x', rfl⟩ := Int.eq_ofNat_of_zero_le hxr.1
                  have hxn : x' < adj.length := by omega
                  rw [Int.toNat_natCast, List.getD_eq_getElem?_getD, List.getElem?_eq_getElem hxn] at hd
                  obtain ⟨a1, hd1, hd2⟩ := Option.bind_eq_some_iff.1 hd
                  have HD1 : Aside (adj[x'].foldlM (visitP kp v) (out, todo.take m) = some a1) := ⟨hd1⟩
                  have HD2 := Aside.mk hd2
                  have HROW : Aside (∀ u ∈ adj[x'], 0 ≤ u ∧ u < adj.length) := ⟨HA.out adj[x'] (List.getElem_mem hxn)⟩
                  obtain ⟨b, o, rv, e, crow0, hrow⟩ := (HT.out w (Below.refl _ _)).row x' hxn
                  cases e
                  have crow := bcell HO.out.below crow0
                  obtain ⟨A4, c4, rfl, hc4, hm4⟩ := hrow.slice
                  have HUS : Aside (∀ W, Below w.heap.size w W → Sl kint W ok (.slice A4 adj[x'].length c4) adj[x']) := ⟨fun W hW => hrow.below hW⟩
                  clear crow0
                  obtain ⟨_, g2⟩ := HGB.out wr HO.out.below
                  generalize adj[x'] = us at *
                  rw [hm]
                  clear hd hd1 hd2 hgd hxr hown HTd HEl HD hrow hlt hz hm
                  go_upto_region 17 with (fail)
                  go_loopg [8, 70] us.length (fun kq v8 v70 wr => ∃ (j : Nat) (out todo : List Int), Aside (j + kq = us.length) ∧ v70 = .int .i64 j ∧ Aside ((us.drop j).foldlM (visitP kp v) (out, todo) = some a1) ∧ Aside (OB w ob adj.length wr out) ∧ Aside (wr.ownsRow (ob + 1) 3 1 v8 todo.length (ints todo)) ∧ Aside (todo.length ≤ 16777216 ∧ ∀ y ∈ todo, 0 ≤ y ∧ y < adj.length))
                  case atStart => exact ⟨0, out, todo.take m, ⟨by omega⟩, rfl, ⟨by rw [List.drop_zero]; exact HD1.out⟩, HO, ⟨by rw [HPL.out]; exact HPop.out⟩, HEl2⟩
                  case round =>
                    clear HD1 HO HPop HEl2 ct crow g2
                    obtain ⟨j, out, todo, HJ, rfl, HD1, HO, HTd, HEl⟩ := hrel
                    obtain ⟨A9, c9, e9⟩ : ∃ A c, u8 = .slice A todo.length c := by
                      rcases HTd.out.2 with ⟨e, hn⟩ | ⟨g, cap, cur, e, _⟩
                      · exact ⟨none, 0, by rw [hn]; exact e⟩
                      · exact ⟨_, _, e⟩
                    subst e9
                    by_cases hj : j < us.length
                    · obtain ⟨bj, oj, e, crj⟩ := (HUS.out wr HO.out.below).int j hj
                      cases e
                      have hur := HROW.out us[j] (List.getElem_mem hj)
                      have hd := HD1.out
                      rw [List.drop_eq_getElem_cons hj, List.foldlM_cons] at hd
                      generalize us[j] = U at *
                      obtain ⟨u, rfl⟩ := Int.eq_ofNat_of_zero_le hur.1
                      have hun : u < adj.length := by omega
                      obtain ⟨a', ha', hrest⟩ := Option.bind_eq_some_iff.1 hd
                      unfold visitP at ha'
                      rw [Int.toNat_natCast] at ha'
                      obtain ⟨co, fo, _⟩ := ints_blk HO.out.blk (x := u) (by rw [HO.out.len]; exact hun)
                      have HREST := Aside.mk hrest
                      have HJN : Aside (us.length - (j + 1) < gk) := ⟨by have := HJ.out; omega⟩
                      generalize out.getD u 0 = y at *
                      clear hd HD1 hrest hur
                      have skip : ∀ (_ : (out, todo) = a'), Aside ((us.drop (j + 1)).foldlM (visitP kp v) (out, todo) = some a1) := fun e => ⟨by rw [e]; exact HREST.out⟩
                      by_cases h0 : y < 0
                      · have d0 : decide (y < 0) = true := decide_eq_true h0
                        have hkept := kept_any u (HK.out wr HO.out.below)
                        cases hb : kp.getD u false with
                        | false =>
                          rw [hb] at hkept
                          rw [if_neg (fun q => by rw [hb] at q; exact absurd q.2 (by simp))] at ha'
                          have HD1 := skip (by simpa using ha')
                          clear skip ha' HREST hb h0
                          go_wp2_with fail
                          refine hkept.mono ?_
                          clear hkept
                          rintro e w' ⟨rfl, rfl⟩
                          go_wp2
                          go_roundg (us.length - (j + 1))
                          case measure => exact HJN.out
                          case rel => exact ⟨j + 1, out, todo, ⟨by omega⟩, by go_num, HD1, HO, HTd, HEl⟩
                        | true =>
                          rw [hb] at hkept
                          rw [if_pos ⟨h0, hb⟩] at ha'
                          have hlt : todo.length < 16777216 := by
                            refine Decidable.byContradiction fun q => ?_
                            rw [if_neg q] at ha'
                            cases ha'
                          rw [if_pos hlt] at ha'
                          have ha' : (out.set u (v : Int), todo ++ [(u : Int)]) = a' := by simpa using ha'
                          have HD1 : Aside ((us.drop (j + 1)).foldlM (visitP kp v) (out.set u (v : Int), todo ++ [(u : Int)]) = some a1) := ⟨by rw [ha']; exact HREST.out⟩
                          have HEl3 : Aside ((todo ++ [(u : Int)]).length ≤ 16777216 ∧ ∀ y ∈ todo ++ [(u : Int)], 0 ≤ y ∧ y < adj.length) := ⟨by simp; omega, fun y hy => by
                            rcases List.mem_append.1 hy with hy | hy
                            · exact HEl.out.2 y hy
                            · rw [List.mem_singleton.1 hy]; omega⟩
                          clear skip ha' HREST hb h0
                          go_wp2_with fail
                          refine hkept.mono ?_
                          clear hkept
                          rintro e w' ⟨rfl, rfl⟩
                          go_upto_region 21 with (fail)
                          have HO5 := Aside.mk (HO.out.set u (v : Int) hun)
                          have HTd5 : Aside ((wr.setCell ⟨ob, u, none⟩ (.int .i64 (v : Int))).ownsRow (ob + 1) 3 1 (.slice A9 todo.length c9) todo.length (ints todo)) := ⟨ownsRow_move HTd.out fun q e => Below.heap_setCell _ _ _ _ (by show q ≠ ob; have := (HTd.out.lt q e).1; omega)⟩
                          clear HO HTd co fo crj
                          generalize wr.setCell ⟨ob, u, none⟩ (.int .i64 (v : Int)) = w5 at *
                          have hsz : ob + 1 ≤ w5.heap.size := HO5.out.sz
                          go_wp2_with (at_builtin; go_must (refine app_one (ob + 1) rfl _ _ 23 3 (.int .i64 0) 1 8 rfl Try.underlying23 Try.info3 rfl (by decide) (by decide) (.slice A9 todo.length c9) todo.length _ [.int .i64 (u : Int)] rfl rfl rfl (by simp [Value.oneCell']) HTd5.out hsz (by omega) ?_; intro v9 w6 hown hg6 hat; have HO6 := Aside.mk (HO5.out.grown hg6 fun q e => (HTd5.out.lt q e).1); have HT6 := Aside.mk hown; clear hown hg6 hat hsz))
                          go_roundg (us.length - (j + 1))
                          case measure => exact HJN.out
                          case rel => exact ⟨j + 1, _, _, ⟨by omega⟩, by go_num, HD1, HO6, ⟨by rw [ints_snoc', List.length_append]; exact HT6.out⟩, HEl3⟩
                      · have d0 : decide (y < 0) = false := decide_eq_false h0
                        rw [if_neg (fun q => h0 q.1)] at ha'
                        have HD1 := skip (by simpa using ha')
                        clear skip ha' HREST h0
                        go_wp2
                        go_roundg (us.length - (j + 1))
                        case measure => exact HJN.out
                        case rel => exact ⟨j + 1, out, todo, ⟨by omega⟩, by go_num, HD1, HO, HTd, HEl⟩
                    · have hd := HD1.out
                      rw [List.drop_of_length_le (by omega)] at hd
                      have hd : (out, todo) = a1 := by simpa using hd
                      have HD3 : Aside (dfsP adj kp v f (out, todo) = some out1) := ⟨by rw [hd]; exact HD2.out⟩
                      replace hj : us.length ≤ j := by omega
                      clear hd HD1
                      go_wp2
                      go_roundg f
                      case measure => omega
                      case rel => exact ⟨out, todo, HD3, HO, HTd, HEl⟩
        · have hf := HF2.out
          rw [List.drop_of_length_le (by simp; omega)] at hf
          have hf : out = parts := by simpa using hf
          have HP : Aside (IntsPost w parts (.returned (.slice (some ⟨ob, 0, none⟩) adj.length adj.length)) wr) := ⟨_, rfl, by
            have h := HO.out
            rw [hf] at h
            have hl := h.len
            rw [hl]
            exact ⟨by rw [ints_length, hl]; omega, .inr ⟨ob, adj.length, (ints parts).toArray, rfl, h.obB, h.blk, Nat.le_refl _, by simp only [maxLen]; omega, by simp [ints_length, hl], by rw [List.take_of_length_le (by simp [ints_length, hl])]⟩⟩, HO.out.below⟩
          replace hv : adj.length ≤ v := by omega
          clear hf HF2 HO
          go_wp2
          go_ret
          exact HP.out
end Go.Proofs.Ytikgdhmnnnicmaa
