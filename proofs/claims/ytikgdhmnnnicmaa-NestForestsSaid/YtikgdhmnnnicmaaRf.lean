/- The reference's Forest walked: of any good numbers. No condition. -/
import Derived.Test.YtikgdhmnnnicmaaRe
namespace Go.Proofs.Ytikgdhmnnnicmaa
open Go.RowKit
def topOr : List Int → Int
  | [] => -1
  | a :: _ => a
theorem headD_top (ls : List Int) : ls.headD (-1) = topOr ls := by cases ls <;> rfl
set_option maxHeartbeats 8000000 in
set_option maxRecDepth 100000 in
theorem refForest_any {w : World} {ok ok2 : Nat → Prop} {tv cv : Value} {adj : List (List Int)} {cs : List Int} {n : Nat} {fin : List Node} (ht : Sl (kslice kint) w ok tv adj) (hc : Sl kint w ok2 cv cs) (hal : adj.length = n) (hcl : cs.length = n) (hn : n ≤ 16777216)
    (hadj : ∀ l ∈ adj, ∀ u ∈ l, 0 ≤ u ∧ u < n) (hg : good cs) (hf : refForestF n adj cs (levelsOf cs).reverse [] = some fin) : Calls Try.prog 18 #[tv, cv] w (RefPost w fin) := by
  obtain ⟨A, c, rfl, hc1, hm1⟩ := ht.slice
  obtain ⟨A2, c2, rfl, hc2, hm2⟩ := hc.slice
  have HT : Aside (∀ W, Below w.heap.size w W → Sl (kslice kint) W (fun q => ok q ∧ q < w.heap.size) (.slice A adj.length c) adj) := ⟨fun W hW => ht.bound.step fun q h1 h2 => hW.block q h2⟩
  have HC : Aside (∀ W, Below w.heap.size w W → Sl kint W (fun q => ok2 q ∧ q < w.heap.size) (.slice A2 cs.length c2) cs) := ⟨fun W hW => hc.bound.step fun q h1 h2 => hW.block q h2⟩
  have HF := Aside.mk hf
  have HA := Aside.mk hadj
  have HN := Aside.mk hn
  have HGd := Aside.mk hg
  have hgr := greatest_any hc
  rw [greatest_is hg, headD_top] at hgr
  have hmk := run_make_row' (P := Try.prog) 47 4 (.bool false) 1 Try.underlying47 (by kernel_rfl) rfl .i64 .i64 n (by omega) (by omega)
  have HMK := Aside.mk hmk
  have HR0 : Aside (w.ownsRow w.heap.size 42 4 (.slice none 0 0) ([] : List Node).length (nodeCells [])) := ⟨World.ownsRow_nil _ _ _ _⟩
  clear ht hc hf hadj hn hg hmk
  subst hal
  have HCL := Aside.mk hcl
  clear hcl
  go_enter Try.func18, Try.ntmps18
  go_wp2_with fail
  refine hgr.mono ?_
  clear hgr
  rintro e w' ⟨rfl, rfl⟩
  obtain ⟨LS, hLS⟩ : ∃ LS, LS = (levelsOf cs).reverse := ⟨_, rfl⟩
  have HLS : Aside ((levelsOf cs).reverse = [] ++ LS) := ⟨by rw [hLS]; rfl⟩
  rw [← hLS] at HF ⊢
  obtain ⟨g0, hg0⟩ : ∃ g0, g0 = topOr LS := ⟨_, rfl⟩
  rw [← hg0]
  have HG0 := Aside.mk hg0
  clear hLS hg0
  go_wp2
  go_loopg [5, 6] LS.length (fun kq v5 v6 wr => ∃ (pre ls : List Int) (nodes : List Node), Aside (ls.length = kq) ∧ Aside ((levelsOf cs).reverse = pre ++ ls) ∧ v6 = .int .i64 (topOr ls) ∧ Aside (refForestF adj.length adj cs ls nodes = some fin) ∧
    Aside (wr.ownsRow w.heap.size 42 4 v5 nodes.length (nodeCells nodes)) ∧ Aside (Below w.heap.size w wr) ∧ Aside (fine adj.length nodes ∧ nodes.length ≤ 16777216))
  case atStart => exact ⟨[], LS, [], ⟨rfl⟩, HLS, by rw [HG0.out], HF, HR0, ⟨Below.refl _ _⟩, ⟨fun x hx => by simp at hx, Nat.zero_le _⟩⟩
  case round =>
    clear HLS HF HR0
    obtain ⟨pre, ls, nodes, HL, HPre, rfl, HF, HR, HB, HFi⟩ := hrel
    obtain ⟨A3, c3, e3⟩ := own_shape HR.out
    subst e3
    cases ls with
    | nil =>
      have hf := HF.out
      have hf : nodes = fin := by simpa [refForestF] using hf
      have HP : Aside (RefPost w fin (.returned (.slice A3 nodes.length c3)) wr) := ⟨_, rfl, by rw [← hf]; exact HR.out, HB.out⟩
      clear hf HF HR HB HFi
      simp only [topOr]
      go_wp2
      go_ret
      exact HP.out
    | cons k ls =>
      simp only [topOr]
      have hk0 : 0 ≤ k := by
        have := (levelsOf_spec cs).2 k
        rw [HPre.out] at this
        exact (HGd.out k (this.1 (by simp))).1
      have dk : decide (0 ≤ k) = true := decide_eq_true hk0
      have hf := HF.out
      unfold refForestF at hf
      rw [List.foldlM_cons] at hf
      obtain ⟨nodes2, hf1, hf2⟩ := Option.bind_eq_some_iff.1 hf
      obtain ⟨⟨seenE, nodesE⟩, hf3, e⟩ := Option.map_eq_some_iff.1 hf1
      simp only at e
      subst e
      unfold refLevelF at hf3
      have HF2 : Aside (refForestF adj.length adj cs ls nodesE = some fin) := ⟨hf2⟩
      have HF3 := Aside.mk hf3
      have hmk := HMK.out
      clear hf hf1 hf2 hf3 HF hk0
      go_upto_region 6 with (fail)
      have hRS : RS w wr.heap.size adj.length (wr.alloc (.cells (madeCells #[.bool false] adj.length) 4)) (List.replicate adj.length false) nodes (.slice A3 nodes.length c3) :=
        ⟨HR.out.alloc _, by
          rw [heap_alloc_new]
          have : madeCells #[.bool false] adj.length = (bools (List.replicate adj.length false)).toArray := by rw [bools, List.map_replicate, ← toList_madeCells_one]
          rw [this], HB.out.size, fun q e => by have := (HR.out.lt q e).2; omega, HB.out.alloc HB.out.size _, by simp, HFi.out.1, HFi.out.2⟩
      obtain ⟨sb, hsb⟩ : ∃ sb, sb = wr.heap.size := ⟨_, rfl⟩
      rw [← hsb] at hRS ⊢
      generalize wr.alloc (.cells (madeCells #[.bool false] adj.length) 4) = w2 at *
      have HRS := Aside.mk hRS
      have hnb := HN.out
      have HLl : Aside (ls.length < gk) := ⟨by have := HL.out; rw [List.length_cons] at this; omega⟩
      clear hRS hsb HR HB HFi hmk
      go_upto_region 8 with (fail)
      go_loopg [5, 9] adj.length (fun kq v5 v9 wr => ∃ (v : Nat) (seen : List Bool) (nodes1 : List Node), Aside (v + kq = adj.length) ∧ v9 = .int .i64 v ∧ Aside (((List.range adj.length).drop v).foldlM (refStep adj.length adj cs k nodes.length) (seen, nodes1) = some (seenE, nodesE)) ∧ Aside (nodes.length ≤ nodes1.length) ∧ Aside (RS w sb adj.length wr seen nodes1 v5))
      case atStart => exact ⟨0, _, nodes, ⟨by omega⟩, rfl, ⟨by rw [List.drop_zero]; exact HF3.out⟩, ⟨Nat.le_refl _⟩, HRS⟩
      case round =>
        clear HRS HF3
        obtain ⟨v, seen, nodes1, HV, rfl, HF3, HLe, HRS⟩ := hrel
        obtain ⟨A4, c4, e4⟩ := own_shape HRS.out.own
        subst e4
        by_cases hv : v < adj.length
        · have hf := HF3.out
          rw [List.drop_eq_getElem_cons (by simpa using hv), List.getElem_range, List.foldlM_cons] at hf
          obtain ⟨a1, hs1, hs2⟩ := Option.bind_eq_some_iff.1 hf
          have hvc : v < cs.length := by rw [HCL.out]; exact hv
          have cb := HRS.out.bit hv
          obtain ⟨bc, oc, e, cc⟩ := (HC.out wr HRS.out.below).int v hvc
          cases e
          have hcg : cs.getD v (-1) = cs[v] := by rw [List.getD_eq_getElem?_getD, List.getElem?_eq_getElem hvc]; rfl
          unfold refStep at hs1
          rw [hcg] at hs1
          have HS1 := Aside.mk hs1
          have HS2 := Aside.mk hs2
          generalize cs[v] = y at *
          have HVN : Aside (adj.length - (v + 1) < gk) := ⟨by have := HV.out; omega⟩
          clear hf HF3 hs1 hs2 hcg
          cases hbit : seen.getD v false with
          | true =>
            rw [hbit] at cb
            have h1 := HS1.out
            rw [if_pos (.inl hbit)] at h1
            have h1 : (seen, nodes1) = a1 := by simpa using h1
            have HF3 : Aside (((List.range adj.length).drop (v + 1)).foldlM (refStep adj.length adj cs k nodes.length) (seen, nodes1) = some (seenE, nodesE)) := ⟨by rw [h1]; exact HS2.out⟩
            clear h1 hbit HS1 HS2 cc
            go_wp2
            go_roundg (adj.length - (v + 1))
            case measure => exact HVN.out
            case rel => exact ⟨v + 1, seen, nodes1, ⟨by omega⟩, by go_num, HF3, HLe, HRS⟩
          | false =>
            rw [hbit] at cb
            by_cases hy : y < k
            · have dy : decide (y < k) = true := decide_eq_true hy
              have h1 := HS1.out
              rw [if_pos (.inr hy)] at h1
              have h1 : (seen, nodes1) = a1 := by simpa using h1
              have HF3 : Aside (((List.range adj.length).drop (v + 1)).foldlM (refStep adj.length adj cs k nodes.length) (seen, nodes1) = some (seenE, nodesE)) := ⟨by rw [h1]; exact HS2.out⟩
              clear h1 hbit HS1 HS2 hy
              go_wp2
              go_roundg (adj.length - (v + 1))
              case measure => exact HVN.out
              case rel => exact ⟨v + 1, seen, nodes1, ⟨by omega⟩, by go_num, HF3, HLe, HRS⟩
            · have dy : decide (y < k) = false := decide_eq_false hy
              have h1 := HS1.out
              rw [if_neg (fun q => q.elim (fun q => by rw [hbit] at q; cases q) hy)] at h1
              obtain ⟨⟨seen', p⟩, hp1, hp2⟩ := Option.bind_eq_some_iff.1 h1
              have hsb := HRS.out.sbB
              have hpart := Part_any (HT.out wr HRS.out.below) (HC.out wr HRS.out.below) (fun q hq => by have := hq.2; omega) (fun q hq => by have := hq.2; omega) rfl HCL.out HN.out HA.out (blk_lt HRS.out.marks) HRS.out.marks HRS.out.len hv hp1
              have HP2 := Aside.mk hp2
              clear h1 hbit HS1 hy hp1 hp2 hsb
              go_wp2_with fail
              refine hpart.mono ?_
              clear hpart
              rintro e w3 ⟨pv, rfl, hpo, hpm, hpn, hpe, hpl, hple⟩
              simp only at hpo hpm hpe hpl hple
              have hRS3 := HRS.out.part hpn hpm hpl
              obtain ⟨A5, c5, e5⟩ : ∃ A c, pv = .slice A p.length c := by
                rcases hpo.2 with ⟨rfl, hn⟩ | ⟨g, cap, cur, rfl, _⟩
                · exact ⟨none, 0, by rw [hn]⟩
                · exact ⟨_, _, rfl⟩
              subst e5
              have HPO : Aside (∀ W, Below w3.heap.size w3 W → ∃ ok, Sl kint W ok (.slice A5 p.length c5) p) := ⟨fun W hW => ⟨_, (own_ints hpo).sl.below hW⟩⟩
              have HPE := Aside.mk hpe
              have hple2 : p.length ≤ 16777216 := hple
              have hmk := HMK.out
              clear hpo hpm hpn hpe hpl hple cb cc HRS
              have HRS3 := Aside.mk hRS3
              clear hRS3
              go_upto_region 13 with (fail)
              have hib : (w3.alloc (.cells (madeCells #[.bool false] adj.length) 4)).heap[w3.heap.size]? = some (.cells (bools (marksF adj.length (p.take 0))).toArray 4 (0, 0)) := by
                rw [heap_alloc_new]
                have : madeCells #[.bool false] adj.length = (bools (marksF adj.length (p.take 0))).toArray := by rw [List.take_zero, marksF, List.foldl_nil, bools, List.map_replicate, ← toList_madeCells_one]
                rw [this]
              have hbb := (Below.refl w3.heap.size w3).alloc (Nat.le_refl _) (.cells (madeCells #[.bool false] adj.length) 4)
              obtain ⟨ib, hibe⟩ : ∃ ib, ib = w3.heap.size := ⟨_, rfl⟩
              rw [← hibe] at hib hbb ⊢
              generalize w3.alloc (.cells (madeCells #[.bool false] adj.length) 4) = w4 at *
              have HIB := Aside.mk hib
              have HBB := Aside.mk hbb
              have HIE := Aside.mk hibe
              clear hib hbb hibe hmk
              go_upto_region 15 with (fail)
              go_loopg [12, 13] p.length (fun kq v12 v13 wr => ∃ (i : Nat), Aside (i + kq = p.length) ∧ v13 = .int .i64 i ∧ v12 = .bool ((p.take i).any fun x => decide (cs.getD x.toNat (-1) = k)) ∧ Aside (Below ib w3 wr) ∧ Aside (wr.heap[ib]? = some (.cells (bools (marksF adj.length (p.take i))).toArray 4 (0, 0))))
              case atStart => exact ⟨0, ⟨by omega⟩, rfl, by simp, HBB, HIB⟩
              case round =>
                clear HIB HBB
                obtain ⟨i, HI, rfl, rfl, HBB, HIB⟩ := hrel
                by_cases hi : i < p.length
                · have hb3 : Below w3.heap.size w3 wr := by rw [← HIE.out]; exact HBB.out
                  obtain ⟨ok', hp⟩ := HPO.out wr hb3
                  obtain ⟨bp, op, e, cp⟩ := hp.int i hi
                  cases e
                  have hpx := HPE.out p[i] (List.getElem_mem hi)
                  have HM := Aside.mk (marksF_succ adj.length hi)
                  have HAny := Aside.mk (any_succ (f := fun x => decide (cs.getD x.toNat (-1) = k)) hi)
                  generalize p[i] = X at *
                  obtain ⟨x, rfl⟩ := Int.eq_ofNat_of_zero_le hpx.1
                  have hxn : x < adj.length := by omega
                  obtain ⟨cx, fx, hset⟩ := bool_blk HIB.out (x := x) (by rw [marksF_length]; exact hxn)
                  have HSET := Aside.mk hset
                  have hxc : x < cs.length := by rw [HCL.out]; exact hxn
                  have hbel := (HRS3.out.below' hb3).below
                  obtain ⟨bc', oc', e, cc⟩ := (HC.out wr hbel).int x hxc
                  cases e
                  have HCG : Aside (cs.getD x (-1) = cs[x]) := ⟨by rw [List.getD_eq_getElem?_getD, List.getElem?_eq_getElem hxc]; rfl⟩
                  have cc2 : (wr.setCell ⟨ib, x, none⟩ (.bool true)).cell? ⟨bc, oc + x, none⟩ = some (.int .i64 cs[x]) := by
                    have hlt : bc < ib := by
                      have h1 := (HC.out w3 HRS3.out.below).int x hxc
                      obtain ⟨b1, o1, e1, h2⟩ := h1
                      cases e1
                      rw [HIE.out]
                      exact World.block_lt_of_cell? _ _ h2
                    exact (World.cell?_of_block (Below.heap_setCell _ _ _ _ (by show bc ≠ ib; omega))).trans cc
                  have cp2 : (wr.setCell ⟨ib, x, none⟩ (.bool true)).cell? ⟨bp, op + i, none⟩ = some (.int .i64 (x : Int)) := by
                    have hlt : bp < ib := by
                      obtain ⟨ok1, h1⟩ := HPO.out w3 (Below.refl _ _)
                      obtain ⟨b1, o1, e1, h2⟩ := h1.int i hi
                      cases e1
                      rw [HIE.out]
                      exact World.block_lt_of_cell? _ _ h2
                    exact (World.cell?_of_block (Below.heap_setCell _ _ _ _ (by show bp ≠ ib; omega))).trans cp
                  have HB4 : Aside (Below ib w3 (wr.setCell ⟨ib, x, none⟩ (.bool true))) := ⟨HBB.out.setCell (Nat.le_refl ib) _⟩
                  have HPN : Aside (p.length - (i + 1) < gk) := ⟨by have := HI.out; omega⟩
                  generalize cs[x] = z at *
                  generalize (p.take i).any (fun x => decide (cs.getD x.toNat (-1) = k)) = own at *
                  clear hb3 hp hpx hset hbel HIB HBB
                  cases own with
                  | true =>
                    go_wp2
                    go_roundg (p.length - (i + 1))
                    case measure => exact HPN.out
                    case rel => exact ⟨i + 1, ⟨by omega⟩, by go_num, by rw [HAny.out]; simp, HB4, ⟨by rw [HM.out]; simpa using HSET.out⟩⟩
                  | false =>
                    by_cases hz : (z == k) = true
                    · have HZ : Aside (z = k) := ⟨by simpa using hz⟩
                      go_wp2
                      go_roundg (p.length - (i + 1))
                      case measure => exact HPN.out
                      case rel => exact ⟨i + 1, ⟨by omega⟩, by go_num, by rw [HAny.out, Int.toNat_natCast, HCG.out, HZ.out]; simp, HB4, ⟨by rw [HM.out]; simpa using HSET.out⟩⟩
                    · replace hz : (z == k) = false := by simpa using hz
                      have HZ : Aside (z ≠ k) := ⟨by simpa using hz⟩
                      go_wp2
                      go_roundg (p.length - (i + 1))
                      case measure => exact HPN.out
                      case rel => exact ⟨i + 1, ⟨by omega⟩, by go_num, by rw [HAny.out, Int.toNat_natCast, HCG.out]; simp [HZ.out], HB4, ⟨by rw [HM.out]; simpa using HSET.out⟩⟩
                · have ht : p.take i = p := List.take_of_length_le (by omega)
                  have hb3 : Below w3.heap.size w3 wr := by rw [← HIE.out]; exact HBB.out
                  have HRS5 := Aside.mk (HRS3.out.below' hb3)
                  have HIB5 : Aside (wr.heap[ib]? = some (.cells (bools (marksF adj.length p)).toArray 4 (0, 0))) := ⟨by rw [← ht]; exact HIB.out⟩
                  have HNE : Aside (∀ q, (Value.slice A4 nodes1.length c4).ownBlock = some q → q ≠ ib ∧ w.heap.size ≤ q) := ⟨fun q e => by have := HRS3.out.own.lt q e; rw [HIE.out]; omega⟩
                  rw [ht]
                  have h2 := HP2.out
                  generalize (p.any fun x => decide (cs.getD x.toNat (-1) = k)) = own at *
                  replace hi : p.length ≤ i := by omega
                  clear ht hb3 HIB HBB HRS3 HP2 HPO HPE
                  cases own with
                  | false =>
                    rw [if_neg (by simp)] at h2
                    have h2 : (seen', nodes1) = a1 := by simpa using h2
                    have HF3 : Aside (((List.range adj.length).drop (v + 1)).foldlM (refStep adj.length adj cs k nodes.length) (seen', nodes1) = some (seenE, nodesE)) := ⟨by rw [h2]; exact HS2.out⟩
                    clear h2 HS2
                    go_wp2
                    go_roundg (adj.length - (v + 1))
                    case measure => exact HVN.out
                    case rel => exact ⟨v + 1, seen', nodes1, ⟨by omega⟩, by go_num, HF3, HLe, HRS5⟩
                  | true =>
                    rw [if_pos rfl] at h2
                    have hlt : nodes1.length < 16777216 := by
                      refine Decidable.byContradiction fun q => ?_
                      rw [if_neg q] at h2
                      cases h2
                    rw [if_pos hlt] at h2
                    rw [Option.some.injEq] at h2
                    have HF3 : Aside (((List.range adj.length).drop (v + 1)).foldlM (refStep adj.length adj cs k nodes.length) (seen', kidsF (marksF adj.length p) nodes.length nodes1 ++ [⟨k, (v : Int), (p.length : Int), -1⟩]) = some (seenE, nodesE)) := ⟨by rw [h2]; exact HS2.out⟩
                    have HLT := Aside.mk hlt
                    have HMsl : Aside ((marksF adj.length p).length = adj.length) := ⟨marksF_length _ _⟩
                    generalize marksF adj.length p = ms at *
                    clear h2 HS2
                    have hle1 := HLe.out
                    have hnl := HRS5.out.le
                    go_upto_region 21 with (fail)
                    obtain ⟨w5, hw5⟩ : ∃ w5, w5 = wr := ⟨_, rfl⟩
                    rw [← hw5] at HRS5 HIB5 ⊢
                    clear hw5
                    have HK0 : Aside (w5.ownsRow w.heap.size 42 4 (.slice A4 nodes1.length c4) nodes1.length (nodeCells (kidsF ms 0 nodes1))) := ⟨by rw [kidsF_zero]; exact HRS5.out.own⟩
                    have HO0 : Aside (Only (fun q => (Value.slice A4 nodes1.length c4).ownBlock = some q) w5 w5) := ⟨Only.refl _ _⟩
                    go_loopg [14] nodes.length (fun kq v14 wr => ∃ (i : Nat), Aside (i + kq = nodes.length) ∧ v14 = .int .i64 i ∧ Aside (wr.ownsRow w.heap.size 42 4 (.slice A4 nodes1.length c4) nodes1.length (nodeCells (kidsF ms i nodes1))) ∧ Aside (Only (fun q => (Value.slice A4 nodes1.length c4).ownBlock = some q) w5 wr))
                    case atStart => exact ⟨0, ⟨by omega⟩, rfl, HK0, HO0⟩
                    case round =>
                      clear HK0 HO0
                      obtain ⟨i, HI, rfl, HK, HO⟩ := hrel
                      by_cases hi : i < nodes.length
                      · have hi1 : i < nodes1.length := by omega
                        obtain ⟨g, e⟩ : ∃ g, A4 = some ⟨g, 0, none⟩ := by
                          rcases HK.out.2 with ⟨_, hn⟩ | ⟨g, cap, cur, e, _⟩
                          · omega
                          · cases e; exact ⟨g, rfl⟩
                        subst e
                        have hkl : (kidsF ms i nodes1).length = nodes1.length := kidsF_length
                        have HOWN : Aside (wr.ownsRow w.heap.size 42 4 (.slice (some ⟨g, 0, none⟩) (kidsF ms i nodes1).length c4) (kidsF ms i nodes1).length (nodeCells (kidsF ms i nodes1))) := ⟨by rw [hkl]; exact HK.out⟩
                        have hgt : (kidsF ms i nodes1)[i]'(by rw [hkl]; exact hi1) = nodes1[i] := by
                          have h1 := kidsF_get (ms := ms) (i := i) (xs := nodes1) i
                          rw [List.getElem?_eq_getElem (by rw [hkl]; exact hi1), List.getElem?_eq_getElem hi1] at h1
                          simpa using h1
                        obtain ⟨bg, og, e, k0, k1, k2, k3⟩ := (own_nodes HOWN.out).sl.node i (by rw [hkl]; exact hi1)
                        cases e
                        rw [hgt] at k1 k3
                        rw [Nat.zero_add] at k1 k3
                        have hfx := HRS5.out.ok nodes1[i] (List.getElem_mem hi1)
                        have HST := Aside.mk (kidsF_step (ms := ms) hi1)
                        obtain ⟨fp, hso, hoo⟩ := node_parent HOWN.out HO.out (i := i) (nodes1.length : Int)
                        rw [hkl] at hso
                        have HSO := Aside.mk hso
                        have HOO := Aside.mk hoo
                        have hgi : (HNE.out g rfl).1 = (HNE.out g rfl).1 := rfl
                        have hneg := (HNE.out g rfl).1
                        have hib2 : wr.heap[ib]? = some (.cells (bools ms).toArray 4 (0, 0)) := (HO.out.block ib (blk_lt HIB5.out) (fun e => hneg (by cases e; rfl))).trans HIB5.out
                        generalize nodes1[i] = X at *
                        obtain ⟨xk, xl, xs, xp⟩ := X
                        simp only at k1 k3 hfx
                        obtain ⟨l, rfl⟩ := Int.eq_ofNat_of_zero_le hfx.2.1
                        have hln : l < adj.length := by omega
                        obtain ⟨cl, _, _⟩ := bool_blk hib2 (x := l) (by rw [HMsl.out]; exact hln)
                        have HPN : Aside (nodes.length - (i + 1) < gk) := ⟨by have := HI.out; omega⟩
                        clear k0 k2 hgt hso hoo hkl hgi hneg hib2 hfx
                        by_cases hp0 : xp < 0
                        · have d0 : decide (xp < 0) = true := decide_eq_true hp0
                          cases hbit : ms.getD l false with
                          | true =>
                            rw [hbit] at cl
                            have hst := HST.out
                            rw [if_pos ⟨hp0, by simpa using hbit⟩] at hst
                            have HST2 := Aside.mk hst
                            clear hst HST hbit hp0
                            go_wp2
                            go_roundg (nodes.length - (i + 1))
                            case measure => exact HPN.out
                            case rel => exact ⟨i + 1, ⟨by omega⟩, by go_num, ⟨by rw [HST2.out]; exact HSO.out⟩, HOO⟩
                          | false =>
                            rw [hbit] at cl
                            have hst := HST.out
                            rw [if_neg (fun q => by have h1 := q.2; rw [show (⟨xk, (l : Int), xs, xp⟩ : Node).Least.toNat = l from rfl, hbit] at h1; cases h1)] at hst
                            have HST2 := Aside.mk hst
                            clear hst HST hbit hp0
                            go_wp2
                            go_roundg (nodes.length - (i + 1))
                            case measure => exact HPN.out
                            case rel => exact ⟨i + 1, ⟨by omega⟩, by go_num, ⟨by rw [HST2.out]; exact HK.out⟩, HO⟩
                        · have d0 : decide (xp < 0) = false := decide_eq_false hp0
                          have hst := HST.out
                          rw [if_neg (fun q => hp0 q.1)] at hst
                          have HST2 := Aside.mk hst
                          clear hst HST hp0
                          go_wp2
                          go_roundg (nodes.length - (i + 1))
                          case measure => exact HPN.out
                          case rel => exact ⟨i + 1, ⟨by omega⟩, by go_num, ⟨by rw [HST2.out]; exact HK.out⟩, HO⟩
                      · have hin : i = nodes.length := by have := HI.out; omega
                        subst hin
                        have hkl : (kidsF ms nodes.length nodes1).length = nodes1.length := kidsF_length
                        have HKL := Aside.mk hkl
                        have HFX : Aside (fine adj.length (kidsF ms nodes.length nodes1 ++ [⟨k, (v : Int), (p.length : Int), -1⟩])) := ⟨fun x hx => by
                          rcases List.mem_append.1 hx with hx | hx
                          · exact kidsF_fine HRS5.out.ok x hx
                          · rw [List.mem_singleton.1 hx]
                            exact ⟨Int.le_refl _, by show (0 : Int) ≤ (v : Int); omega, by show (v : Int) < adj.length; omega⟩⟩
                        have hsz : w.heap.size ≤ wr.heap.size := Nat.le_trans HRS5.out.below.size HO.out.size
                        have HN1 : Aside (nodes.length ≤ nodes1.length + 1) := ⟨by omega⟩
                        clear hkl hi
                        go_wp2_with (at_builtin; go_must (refine app_one w.heap.size rfl _ _ 30 42 _ 4 32 rfl Try.underlying30 Try.info42 rfl (by decide) (by decide) (.slice A4 nodes1.length c4) nodes1.length _ [.int .i64 k, .int .i64 (v : Int), .int .i64 (p.length : Int), .int .i64 (-1)] rfl rfl rfl (by simp [Value.oneCell']) HK.out hsz (by omega) ?_; intro v1 w7 hown hg7 hat; have HRS7 := Aside.mk (HRS5.out.finish HO.out HKL.out HFX.out HLT.out (fun q e => (HNE.out q e).2) (by rw [HKL.out]; exact hown) hg7 hat); clear hown hg7 hat hsz))
                        go_roundg (adj.length - (v + 1))
                        case measure => exact HVN.out
                        case rel => exact ⟨v + 1, seen', _, ⟨by omega⟩, by go_num, HF3, ⟨by rw [List.length_append, HKL.out]; exact HN1.out⟩, HRS7⟩
        · have hf := HF3.out
          rw [List.drop_of_length_le (by simp; omega)] at hf
          have hf : seen = seenE ∧ nodes1 = nodesE := by simpa using hf
          have HE := Aside.mk hf.2
          replace hv : adj.length ≤ v := by omega
          have hbl := below_any (k := k) (HC.out wr HRS.out.below)
          rw [below_is HGd.out HPre.out, headD_top] at hbl
          clear hf HF3
          go_wp2_with fail
          refine hbl.mono ?_
          clear hbl
          rintro e w' ⟨rfl, rfl⟩
          obtain ⟨g1, hg1⟩ : ∃ g1, g1 = topOr ls := ⟨_, rfl⟩
          rw [← hg1]
          have HG1 := Aside.mk hg1
          clear hg1
          go_wp2
          go_roundg ls.length
          case measure => exact HLl.out
          case rel => exact ⟨pre ++ [k], ls, nodes1, ⟨rfl⟩, ⟨by rw [List.append_assoc]; exact HPre.out⟩, by rw [HG1.out], ⟨by rw [HE.out]; exact HF2.out⟩, ⟨HRS.out.own⟩, ⟨HRS.out.below⟩, ⟨HRS.out.ok, HRS.out.le⟩⟩
end Go.Proofs.Ytikgdhmnnnicmaa
