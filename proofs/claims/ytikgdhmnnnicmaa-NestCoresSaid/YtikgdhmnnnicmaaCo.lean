/- The reference's Cores walked: every graph's lists. No condition. -/
import Derived.Test.YtikgdhmnnnicmaaCw
namespace Go.Proofs.Ytikgdhmnnnicmaa
open Go.RowKit
set_option maxHeartbeats 8000000 in
set_option maxRecDepth 100000 in
theorem Cores_any {w : World} {ok : Nat → Prop} {tv : Value} {adj : List (List Int)} {n : Nat} {fin : List Int} (ht : Sl (kslice kint) w ok tv adj) (hal : adj.length = n) (hn : n ≤ 16777000) (hadj : ∀ l ∈ adj, ∀ u ∈ l, 0 ≤ u ∧ u < n) (hf : coresF n adj = some fin) :
    Calls Try.prog 26 #[tv] w (IntsPost w fin) := by
  obtain ⟨A, c, rfl, hc1, hm1⟩ := ht.slice
  have HT : Aside (∀ W, Below w.heap.size w W → Sl (kslice kint) W ok (.slice A adj.length c) adj) := ⟨fun W hW => ht.below hW⟩
  have HF := Aside.mk hf
  have HA := Aside.mk hadj
  clear ht hf hadj
  subst hal
  have hmkI := run_make_row' (P := Try.prog) 23 3 (.int .i64 0) 8 Try.underlying23 Try.info3 rfl .i64 .i64 adj.length (by omega) (by omega)
  have hmkB := run_make_row' (P := Try.prog) 47 4 (.bool false) 1 Try.underlying47 (by kernel_rfl) rfl .i64 .i64 adj.length (by omega) (by omega)
  have hC0 : CB w w.heap.size (w.heap.size + 1) adj.length ((w.alloc (.cells (madeCells #[.int .i64 0] adj.length) 3)).alloc (.cells (madeCells #[.bool false] adj.length) 4)) (List.replicate adj.length 0) (List.replicate 0 true ++ List.replicate (adj.length - 0) false) := by
    refine ⟨?_, ?_, by simp, by simp, ((Below.refl _ w).alloc (Nat.le_refl _) _).alloc (by simp) _, Nat.le_refl _, by omega, by omega⟩
    · refine (Below.heap_alloc _ _ _ (by simp)).trans ?_
      rw [heap_alloc_new, toList_made_ints]
    · have h1 := heap_alloc_new (w.alloc (.cells (madeCells #[.int .i64 0] adj.length) 3)) (.cells (madeCells #[.bool false] adj.length) 4)
      simp only [World.size_alloc] at h1
      rw [h1]
      have : madeCells #[.bool false] adj.length = (bools (List.replicate adj.length false)).toArray := by rw [bools, List.map_replicate, ← toList_madeCells_one]
      rw [this]
      rfl
  have HC0 := Aside.mk hC0
  clear hC0
  go_enter Try.func26, Try.ntmps26
  go_wp2
  obtain ⟨cb, hcb⟩ : ∃ cb, cb = w.heap.size := ⟨_, rfl⟩
  obtain ⟨lb, hlb⟩ : ∃ lb, lb = w.heap.size + 1 := ⟨_, rfl⟩
  rw [← hlb, ← hcb] at HC0
  rw [← hlb, ← hcb]
  generalize (w.alloc (.cells (madeCells #[.int .i64 0] adj.length) 3)).alloc (.cells (madeCells #[.bool false] adj.length) 4) = w1 at *
  clear hcb hlb hmkI hmkB
  go_loopg [6] adj.length (fun kq v6 wr => ∃ (i : Nat), Aside (i + kq = adj.length) ∧ v6 = .int .i64 i ∧ Aside (CB w cb lb adj.length wr (List.replicate adj.length 0) (List.replicate i true ++ List.replicate (adj.length - i) false)))
  case atStart => exact ⟨0, ⟨by omega⟩, rfl, HC0⟩
  case round =>
    clear HC0
    obtain ⟨i, HI, rfl, HC⟩ := hrel
    by_cases hi : i < adj.length
    · obtain ⟨ci, fi, _⟩ := bool_blk2 HC.out.l (x := i) (by rw [HC.out.ll]; exact hi) true
      have HC2 : Aside (CB w cb lb adj.length (wr.setCell ⟨lb, i, none⟩ (.bool true)) (List.replicate adj.length 0) (List.replicate (i + 1) true ++ List.replicate (adj.length - (i + 1)) false)) := ⟨by
        have h1 := HC.out.setL hi true
        have e : (List.replicate i true ++ List.replicate (adj.length - i) false).set i true = List.replicate (i + 1) true ++ List.replicate (adj.length - (i + 1)) false := by
          rw [List.set_append_right _ _ (by simp), List.length_replicate, Nat.sub_self, show adj.length - i = (adj.length - (i + 1)) + 1 by omega, List.replicate_succ, List.set_cons_zero, List.replicate_succ', List.append_assoc]
          rfl
        rw [e] at h1
        exact h1⟩
      clear HC
      go_wp2
      go_roundg (adj.length - (i + 1))
      case measure => have := HI.out; omega
      case rel => exact ⟨i + 1, ⟨by omega⟩, by go_num, HC2⟩
    · have hin : i = adj.length := by have := HI.out; omega
      have HC1 : Aside (CB w cb lb adj.length wr (List.replicate adj.length 0) (List.replicate adj.length true)) := ⟨by
        have h := HC.out
        rw [hin, Nat.sub_self, List.replicate_zero, List.append_nil] at h
        exact h⟩
      have d23 : decide (i < adj.length) = false := decide_eq_false (by omega)
      replace hi : adj.length ≤ i := by omega
      clear HC hin
      obtain ⟨s0, hs0⟩ : ∃ s0, s0 = decide (0 < adj.length) := ⟨_, rfl⟩
      have hs1 : decide (0 < adj.length) = s0 := hs0.symm
      have HF2 : Aside (coresG adj.length adj (adj.length + 2) 1 (List.replicate adj.length true) (List.replicate adj.length 0) s0 = some fin) := ⟨by rw [hs0]; exact HF.out⟩
      rw [hs1]
      clear hs0
      go_upto_region 9 with (fail)
      go_loopg [5, 7] (adj.length + 2) (fun kq v5 v7 wr => ∃ (k : Nat) (left : List Bool) (core : List Int) (sm : Bool), Aside (k + kq = adj.length + 3) ∧ v7 = .int .i64 k ∧ v5 = .bool sm ∧ Aside (coresG adj.length adj kq k left core sm = some fin) ∧ Aside (CB w cb lb adj.length wr core left))
      case atStart => exact ⟨1, _, _, s0, ⟨by omega⟩, rfl, rfl, HF2, HC1⟩
      case round =>
        clear HC1 HF2 hs1
        obtain ⟨k, left, core, sm, HK, rfl, rfl, HF2, HC⟩ := hrel
        obtain ⟨f, rfl⟩ : ∃ f, gk = f + 1 := by
          cases gk with
          | zero => have := HF2.out; simp [coresG] at this
          | succ f => exact ⟨f, rfl⟩
        have hkb : k ≤ 16777216 := by have := HK.out; omega
        cases sm with
        | false =>
          have hf := HF2.out
          simp only [coresG] at hf
          have hf : core = fin := by simpa using hf
          have HP : Aside (IntsPost w fin (.returned (.slice (some ⟨cb, 0, none⟩) adj.length adj.length)) wr) := ⟨_, rfl, by
            have h := HC.out
            rw [hf] at h
            have hl := h.cl
            rw [hl]
            exact ⟨by rw [ints_length, hl]; omega, .inr ⟨cb, adj.length, (ints fin).toArray, rfl, h.cB, h.c, Nat.le_refl _, by simp only [maxLen]; omega, by simp [ints_length, hl], by rw [List.take_of_length_le (by simp [ints_length, hl])]⟩⟩, HC.out.below⟩
          clear hf HF2 HC
          go_wp2
          go_ret
          exact HP.out
        | true =>
          have hf := HF2.out
          simp only [coresG, if_true] at hf
          obtain ⟨left1, hp, hf3⟩ := Option.bind_eq_some_iff.1 hf
          have HF3 := Aside.mk hf3
          have HPl : Aside (if true = true then peelF adj.length adj k (adj.length + 1) left = some left1 else left = left1) := ⟨by rw [if_pos rfl]; exact hp⟩
          have HFm : Aside (f + 1 = f + 1) := ⟨rfl⟩
          clear hf hp hf3 HF2
          go_upto_region 12 with (fail)
          go_loopg [8] (adj.length + 1) (fun kq v8 wr => ∃ (left : List Bool) (gone : Bool), v8 = .bool gone ∧ Aside (if gone = true then peelF adj.length adj k kq left = some left1 else left = left1) ∧ Aside (CB w cb lb adj.length wr core left))
          case atStart => exact ⟨left, true, rfl, HPl, HC⟩
          case round =>
            clear HPl HC
            obtain ⟨left, gone, rfl, HPl, HC⟩ := hrel
            cases gone with
            | false =>
              have hl := HPl.out
              rw [if_neg (by simp)] at hl
              subst hl
              have HF4 : Aside (((List.range adj.length).drop 0).foldl (coreStep left k) (core, false) = (List.range adj.length).foldl (coreStep left k) (core, false)) := ⟨by rw [List.drop_zero]⟩
              generalize (List.range adj.length).foldl (coreStep left k) (core, false) = a1 at *
              clear HPl
              go_upto_region 22 with (fail)
              go_loopg [5, 10] adj.length (fun kq v5 v10 wr => ∃ (v : Nat) (core : List Int) (sm : Bool), Aside (v + kq = adj.length) ∧ v10 = .int .i64 v ∧ v5 = .bool sm ∧ Aside (((List.range adj.length).drop v).foldl (coreStep left k) (core, sm) = a1) ∧ Aside (CB w cb lb adj.length wr core left))
              case atStart => exact ⟨0, core, false, ⟨by omega⟩, rfl, rfl, HF4, HC⟩
              case round =>
                clear HF4 HC
                obtain ⟨v, core, sm, HV, rfl, rfl, HF4, HC⟩ := hrel
                by_cases hv : v < adj.length
                · have hf := HF4.out
                  rw [List.drop_eq_getElem_cons (by simpa using hv), List.getElem_range, List.foldl_cons] at hf
                  obtain ⟨cl, _, _⟩ := bool_blk2 HC.out.l (x := v) (by rw [HC.out.ll]; exact hv) true
                  have HVN : Aside (adj.length - (v + 1) < gk) := ⟨by have := HV.out; omega⟩
                  cases hbit : left.getD v false with
                  | false =>
                    rw [hbit] at cl
                    have e : coreStep left k (core, sm) v = (core, sm) := by unfold coreStep; rw [if_neg (by rw [hbit]; simp)]
                    rw [e] at hf
                    have HF5 : Aside (((List.range adj.length).drop (v + 1)).foldl (coreStep left k) (core, sm) = a1) := ⟨hf⟩
                    clear hf HF4 hbit
                    go_wp2
                    go_roundg (adj.length - (v + 1))
                    case measure => exact HVN.out
                    case rel => exact ⟨v + 1, core, sm, ⟨by omega⟩, by go_num, rfl, HF5, HC⟩
                  | true =>
                    rw [hbit] at cl
                    have e : coreStep left k (core, sm) v = (core.set v (k : Int), true) := by unfold coreStep; rw [if_pos hbit]
                    rw [e] at hf
                    have HF5 : Aside (((List.range adj.length).drop (v + 1)).foldl (coreStep left k) (core.set v (k : Int), true) = a1) := ⟨hf⟩
                    obtain ⟨cc, fc, _⟩ := ints_blk HC.out.c (x := v) (by rw [HC.out.cl]; exact hv)
                    have HC2 := Aside.mk (HC.out.setC hv (k : Int))
                    clear hf HF4 hbit HC
                    go_wp2
                    go_roundg (adj.length - (v + 1))
                    case measure => exact HVN.out
                    case rel => exact ⟨v + 1, _, true, ⟨by omega⟩, by go_num, rfl, HF5, HC2⟩
                · have hf := HF4.out
                  rw [List.drop_of_length_le (by simp; omega)] at hf
                  have hf : (core, sm) = a1 := hf
                  have HF6 : Aside (coresG adj.length adj f (k + 1) left core sm = some fin) := ⟨by have := HF3.out; rw [← hf] at this; exact this⟩
                  have HK2 : Aside (k + 1 + f = adj.length + 3) := ⟨by have := HK.out; omega⟩
                  replace hv : adj.length ≤ v := by omega
                  clear hf HF4
                  go_wp2
                  go_roundg f
                  case measure => omega
                  case rel => exact ⟨k + 1, left, core, sm, HK2, by go_num, rfl, HF6, HC⟩
            | true =>
              have hl := HPl.out
              rw [if_pos rfl] at hl
              obtain ⟨g, rfl⟩ : ∃ g, gk = g + 1 := by
                cases gk with
                | zero => simp [peelF] at hl
                | succ g => exact ⟨g, rfl⟩
              simp only [peelF] at hl
              have HP1 : Aside (∀ a : List Bool × Bool, passF adj.length adj k left = a → if a.2 = true then peelF adj.length adj k g a.1 = some left1 else a.1 = left1) := ⟨fun a e => by
                rw [e] at hl
                split
                · rename_i q; rw [if_pos q] at hl; exact hl
                · rename_i q; rw [if_neg q] at hl; simpa using hl⟩
              have HF4 : Aside (((List.range adj.length).drop 0).foldl (passStep adj k) (left, false) = passF adj.length adj k left) := ⟨by rw [List.drop_zero]; rfl⟩
              generalize passF adj.length adj k left = a1 at *
              clear hl HPl
              go_upto_region 15 with (fail)
              go_loopg [8, 9] adj.length (fun kq v8 v9 wr => ∃ (v : Nat) (left : List Bool) (gone : Bool), Aside (v + kq = adj.length) ∧ v9 = .int .i64 v ∧ v8 = .bool gone ∧ Aside (((List.range adj.length).drop v).foldl (passStep adj k) (left, gone) = a1) ∧ Aside (CB w cb lb adj.length wr core left))
              case atStart => exact ⟨0, left, false, ⟨by omega⟩, rfl, rfl, HF4, HC⟩
              case round =>
                clear HF4 HC
                obtain ⟨v, left, gone, HV, rfl, rfl, HF4, HC⟩ := hrel
                by_cases hv : v < adj.length
                · have hf := HF4.out
                  rw [List.drop_eq_getElem_cons (by simpa using hv), List.getElem_range, List.foldl_cons] at hf
                  obtain ⟨cl, fl, _⟩ := bool_blk2 HC.out.l (x := v) (by rw [HC.out.ll]; exact hv) true
                  have HVN : Aside (adj.length - (v + 1) < gk) := ⟨by have := HV.out; omega⟩
                  cases hbit : left.getD v false with
                  | false =>
                    rw [hbit] at cl
                    have e : passStep adj k (left, gone) v = (left, gone) := by unfold passStep; rw [if_neg (by rw [hbit]; simp)]
                    rw [e] at hf
                    have HF5 : Aside (((List.range adj.length).drop (v + 1)).foldl (passStep adj k) (left, gone) = a1) := ⟨hf⟩
                    clear hf HF4 hbit e
                    go_wp2
                    go_roundg (adj.length - (v + 1))
                    case measure => exact HVN.out
                    case rel => exact ⟨v + 1, left, gone, ⟨by omega⟩, by go_num, rfl, HF5, HC⟩
                  | true =>
                    rw [hbit] at cl
                    obtain ⟨b, o, rv, e, crow, hrow⟩ := (HT.out wr HC.out.below).row v hv
                    cases e
                    have hhere := here_any hrow (HC.out.slL (by omega)) (fun u hu => by rw [HC.out.ll]; exact HA.out adj[v] (List.getElem_mem hv) u hu)
                    have hgd : adj.getD v [] = adj[v] := by rw [List.getD_eq_getElem?_getD, List.getElem?_eq_getElem hv]; rfl
                    have hps : passStep adj k (left, gone) v = if hereF adj[v] left < k then (left.set v false, true) else (left, gone) := by
                      unfold passStep
                      rw [hgd]
                      by_cases q : hereF adj[v] left < k
                      · rw [if_pos ⟨hbit, q⟩, if_pos q]
                      · rw [if_neg (fun p => q p.2), if_neg q]
                    rw [hps] at hf
                    generalize hereF adj[v] left = hv0 at *
                    clear hgd hps hrow HF4 hbit
                    by_cases hq : hv0 < k
                    · rw [if_pos hq] at hf
                      have HF5 : Aside (((List.range adj.length).drop (v + 1)).foldl (passStep adj k) (left.set v false, true) = a1) := ⟨hf⟩
                      have HC2 := Aside.mk (HC.out.setL hv false)
                      clear hf HC
                      go_wp2_with fail
                      refine hhere.mono ?_
                      clear hhere
                      rintro e w' ⟨rfl, rfl⟩
                      go_wp2
                      go_roundg (adj.length - (v + 1))
                      case measure => exact HVN.out
                      case rel => exact ⟨v + 1, _, true, ⟨by omega⟩, by go_num, rfl, HF5, HC2⟩
                    · rw [if_neg hq] at hf
                      have HF5 : Aside (((List.range adj.length).drop (v + 1)).foldl (passStep adj k) (left, gone) = a1) := ⟨hf⟩
                      replace hq : k ≤ hv0 := by omega
                      clear hf
                      go_wp2_with fail
                      refine hhere.mono ?_
                      clear hhere
                      rintro e w' ⟨rfl, rfl⟩
                      go_wp2
                      go_roundg (adj.length - (v + 1))
                      case measure => exact HVN.out
                      case rel => exact ⟨v + 1, left, gone, ⟨by omega⟩, by go_num, rfl, HF5, HC⟩
                · have hf := HF4.out
                  rw [List.drop_of_length_le (by simp; omega)] at hf
                  have hf : (left, gone) = a1 := hf
                  have HP2 : Aside (if gone = true then peelF adj.length adj k g left = some left1 else left = left1) := ⟨HP1.out (left, gone) hf.symm⟩
                  replace hv : adj.length ≤ v := by omega
                  clear hf HF4
                  go_wp2
                  go_roundg g
                  case measure => omega
                  case rel => exact ⟨left, gone, rfl, HP2, HC⟩
end Go.Proofs.Ytikgdhmnnnicmaa
