/- The law NestEncodes walked: true at every input, where the library's table reads as it was laid. -/
import Derived.Test.YtikgdhmnnnicmaaDoorRn
import Derived.Test.YtikgdhmnnnicmaaDoorSB
import Derived.Test.YtikgdhmnnnicmaaDoorIt
namespace Go.Proofs.YtikgdhmnnnicmaaDoor
open Go.RowKit Go.Shelf Go
def LawPost (w : World) (e : Ending) (w' : World) : Prop := e = .returned (.bool true) ∧ Below w.heap.size w w'
theorem tab_below {w w' : World} {name : String} {k : IntKind} {zs : List Int} (h : Lib.TabIs Tryd.prog w name k zs) (hb : Below w.heap.size w w') : Lib.TabIs Tryd.prog w' name k zs := by
  unfold Lib.TabIs World.var? at *
  cases hg : Tryd.prog.globalNamed name with
  | none => simp [hg] at h
  | some g =>
    simp only [hg, Option.bind_some] at h ⊢
    have hlt : g < w.heap.size := by
      rcases Nat.lt_or_ge g w.heap.size with h' | h'
      · exact h'
      · rw [Array.getElem?_eq_none h'] at h; simp at h
    rw [hb.block g hlt]
    exact h
theorem Sl.cutN {w : World} {ok : Nat → Prop} {b n c n' c' : Nat} {xs : List Node} (h : Sl knode w ok (.slice (some ⟨b, 0, none⟩) n c) xs) (hn : n' ≤ n) (hc : n' ≤ c') (hm : c' ≤ 9223372036854775807) : Sl knode w ok (.slice (some ⟨b, 0, none⟩) n' c') (xs.take n') := by
  obtain ⟨A', c0, e, h1, h2, h3⟩ := h
  cases e
  have hl : (xs.take n').length = n' := by simp; omega
  refine ⟨some ⟨b, 0, none⟩, c', by rw [hl], by rw [hl]; exact hc, hm, fun hp => ?_⟩
  obtain ⟨b', o, e, h4, h5, h6⟩ := h3 (by omega)
  cases e
  refine ⟨b, 0, rfl, h4, h5, fun i x hx => h6 i x ?_⟩
  rw [List.getElem?_take] at hx
  split at hx
  · exact hx
  · cases hx
theorem own_gt {w : World} {B s n : Nat} {e : TypeId} {v : Value} {xs : List Value} (h : w.ownsRow B e s v n xs) (h0 : 0 < n) : ∃ g cap, v = .slice (some ⟨g, 0, none⟩) n cap ∧ n ≤ cap ∧ cap ≤ 9223372036854775807 := by
  rcases h.2 with ⟨_, e⟩ | ⟨g, cap, cur, rfl, _, _, h1, h2, _⟩
  · omega
  · exact ⟨g, cap, rfl, h1, by simpa only [maxLen] using h2⟩
/-- One field of a node, written over. -/
def setF (x : Node) (f : Nat) (z : Int) : Node := if f = 0 then { x with K := z } else if f = 1 then { x with Least := z } else if f = 2 then { x with Size := z } else { x with Parent := z }
theorem nodeCells_set (z : Int) : ∀ (ns : List Node) (i f : Nat) (hi : i < ns.length) (_hf : f < 4), nodeCells (ns.set i (setF ns[i] f z)) = (nodeCells ns).set (i * 4 + f) (.int .i64 z) := by
  intro ns
  induction ns with
  | nil => intro i f hi; simp at hi
  | cons x ns ih =>
    intro i f hi hf
    have hc : ∀ (y : Node) (r : List Node), nodeCells (y :: r) = [.int .i64 y.K, .int .i64 y.Least, .int .i64 y.Size, .int .i64 y.Parent] ++ nodeCells r := fun y r => by simp [nodeCells]
    cases i with
    | zero =>
      rw [List.getElem_cons_zero, List.set_cons_zero, hc, hc]
      have : f = 0 ∨ f = 1 ∨ f = 2 ∨ f = 3 := by omega
      rcases this with rfl | rfl | rfl | rfl <;> simp [setF]
    | succ i =>
      have hi' : i < ns.length := by simpa using hi
      rw [List.getElem_cons_succ, List.set_cons_succ, hc, hc, ih i f hi' hf]
      rw [show (i + 1) * 4 + f = 4 + (i * 4 + f) by omega, List.set_append_right _ _ (by simp)]
      simp
theorem node_set {w : World} {B g n cap i f : Nat} {ns : List Node} (h : w.ownsRow B 27 4 (.slice (some ⟨g, 0, none⟩) n cap) ns.length (nodeCells ns)) (hi : i < ns.length) (hf : f < 4) (z : Int) :
    (w.setCell ⟨g, i * 4 + f, none⟩ (.int .i64 z)).ownsRow B 27 4 (.slice (some ⟨g, 0, none⟩) n cap) (ns.set i (setF ns[i] f z)).length (nodeCells (ns.set i (setF ns[i] f z))) ∧ w.frozen? ⟨g, i * 4 + f, none⟩ = false ∧ (∃ u, w.cell? ⟨g, i * 4 + f, none⟩ = some u) := by
  rw [nodeCells_set z ns i f hi hf, List.length_set]
  have hl := nodeCells_length ns
  rcases h.2 with ⟨e, _⟩ | ⟨g', cap', cur, e, h1, h2, h3, h4, h5, h6⟩
  · cases e
  · cases e
    refine ⟨⟨by rw [List.length_set]; exact hl, .inr ⟨g, cap, cur.setIfInBounds (i * 4 + f) (.int .i64 z), rfl, h1, ?_, h3, h4, by simpa using h5, ?_⟩⟩, by simp [World.frozen?, h2], ?_⟩
    · simp [World.setCell, Array.getElem?_modify, h2]
    · rw [Array.toList_setIfInBounds, List.take_set, h6]
    · have hlt : i * 4 + f < cur.size := by omega
      exact ⟨cur[i * 4 + f], cell_blk h2 (Array.getElem?_eq_getElem hlt)⟩
def eH (gen n : Int) (l : List Node) : List UInt8 := if encOk gen n l then headF gen n l.length else []
def eD (gen n : Int) (l : List Node) : List (List UInt8) := if encOk gen n l then dataF l else []
def eE (gen n : Int) (l : List Node) : Int := if encOk gen n l then 0 else 220
theorem enc_res {w w' : World} {gen n : Int} {l : List Node} {e : Ending} (h : EncPost w gen n l e w') :
    ∃ A m c A2 m2 c2, e = .returned (.tuple #[.slice A m c, .slice A2 m2 c2, .int .i64 (eE gen n l)]) ∧ Sl kbyte w' (fun _ => True) (.slice A m c) (eH gen n l) ∧ Sl (kslice kbyte) w' (fun _ => True) (.slice A2 m2 c2) (eD gen n l) ∧ Below w.heap.size w w' := by
  obtain ⟨h1, h2, h3⟩ := h
  unfold eH eD eE
  cases hE : encOk gen n l with
  | true =>
    obtain ⟨hv, dv, vs, rfl, ho, hbl⟩ := h1 hE
    have s1 := (own_u8s ho).sl.mono (ok' := fun _ => True) fun _ _ => trivial
    have s2 := hbl.sl.mono (ok' := fun _ => True) fun _ _ => trivial
    obtain ⟨A, m, c, rfl⟩ := own_slice ho
    obtain ⟨A2, m2, c2, rfl⟩ := own_slice hbl.own
    exact ⟨A, m, c, A2, m2, c2, rfl, s1, s2, h3⟩
  | false => exact ⟨none, 0, 0, none, 0, 0, h2 hE, Sl.nil _ _ _, Sl.nil _ _ _, h3⟩
theorem mod_at (U : Int) (n : Nat) (h0 : 0 < n) (hn : n ≤ 1099511627776) : ∃ k : Nat, (wrap64 (U.tmod n + n)).tmod n = (k : Int) ∧ k < n := by
  have h1 : U.tmod n < n := Int.tmod_lt_of_pos _ (by omega)
  have h2 : -(n : Int) < U.tmod n := Int.lt_tmod_of_pos U (by omega)
  have h3 : wrap64 (U.tmod n + n) = U.tmod n + n := Go.IntWalk.wrap64_in _ (by omega)
  have h4 : 0 ≤ (U.tmod n + n).tmod n := Int.tmod_nonneg _ (by omega)
  have h5 : (U.tmod n + n).tmod n < n := Int.tmod_lt_of_pos _ (by omega)
  refine ⟨((U.tmod n + n).tmod n).toNat, ?_, ?_⟩
  · rw [h3]; omega
  · omega
set_option maxHeartbeats 16000000 in
set_option maxRecDepth 100000 in
theorem NestEncodes_any {w : World} {nv : Value} {gen n at_ what to_ : Int} {nodes : List Node} (hgen : gen ≤ 9223372036854775807) (htab : Lib.TabIs Tryd.prog w "internal/strconv.uint64pow10" .u64 Lib.pow10Tab) (hs : Sl knode w (fun _ => True) nv nodes) :
    Calls Tryd.prog 3 #[.int .i64 gen, .int .i64 n, nv, .int .i64 at_, .int .i64 what, .int .i64 to_] w (LawPost w) := by
  obtain ⟨A, c, rfl, hc, hm⟩ := hs.slice
  have HS := Aside.mk hs
  have HT := Aside.mk htab
  clear hs htab
  go_enter Tryd.func3, Tryd.ntmps3
  go_wp2_with fail
  refine (first_any w).mono ?_
  rintro e w1 ⟨rfl, B1⟩
  have HB1 := Aside.mk B1
  clear B1
  by_cases hl : nodes.length ≤ 16384
  · have d1 : decide (16384 < (nodes.length : Int)) = false := by simp; omega
    go_upto_region 4 with (fail)
    go_cut [45] (fun v45 wx => v45 = .bool false ∧ Aside (Below w.heap.size w wx))
    case first =>
      by_cases hg : 0 ≤ gen
      · have dg : decide (0 ≤ gen) = true := decide_eq_true hg
        have hn1 := name_any gen hg hgen w1 (tab_below HT.out HB1.out)
        go_wp2_with fail
        refine hn1.mono ?_
        clear hn1
        rintro e w2 ⟨rfl, B2⟩
        have HB2 := Aside.mk (bthen HB1.out HB1.out.size B2)
        have hn2 := refName_any gen hg hgen w2 (tab_below HT.out HB2.out)
        clear B2 HB1
        generalize nameS gen = nm at *
        go_wp2_with fail
        refine hn2.mono ?_
        clear hn2
        rintro e w3 ⟨rfl, B3⟩
        have HB3 := Aside.mk (bthen HB2.out HB2.out.size B3)
        clear B3 HB2
        go_wp2
        go_meet
        case rel => exact ⟨by simp, HB3⟩
      · have dg : decide (0 ≤ gen) = false := decide_eq_false hg
        go_wp2
        go_meet
        case rel => exact ⟨rfl, HB1⟩
    case rest =>
      clear HB1
      obtain ⟨rfl, HB⟩ := hcut
      obtain ⟨w4, rfl⟩ : ∃ w4, w4 = wc := ⟨_, rfl⟩
      have hl24 : nodes.length ≤ 16777216 := by omega
      have HL16 := Aside.mk hl
      clear hl
      go_wp2_with fail
      refine (Nodes_any (HS.out.below HB.out) hl24).mono ?_
      rintro e w5 ⟨v5, rfl, ho5, B5⟩
      have HB5 := Aside.mk (bthen HB.out HB.out.size B5)
      have HR5 := Aside.mk (ho5.mono HB.out.size)
      obtain ⟨A5, m5, c5, rfl⟩ := own_slice ho5
      clear B5 ho5 HB
      go_wp2_with (at_builtin; go_must (refine app_one w.heap.size rfl _ _ 22 27 _ 4 32 rfl Tryd.underlying22 Tryd.info42 rfl (by decide) (by decide) (.slice A5 m5 c5) nodes.length _ [.int .i64 (-77), .int .i64 0, .int .i64 0, .int .i64 0] rfl rfl rfl (by simp [Value.oneCell']) HR5.out HB5.out.size (by omega) ?_; intro v6 w6 hown hg6 hat; obtain ⟨g, cap, rfl, hcap1, hcap2⟩ := own_gt hown (by omega); have HG : Aside (w.heap.size ≤ g) := ⟨(hown.lt g rfl).1⟩; have HB6 := Aside.mk (HB5.out.grown hg6 HB5.out.size fun q e => (HR5.out.lt q e).1); have HO6 : Aside (w6.ownsRow w.heap.size 27 4 (.slice (some ⟨g, 0, none⟩) (nodes.length + 1) cap) (nodes ++ [(⟨-77, 0, 0, 0⟩ : Node)]).length (nodeCells (nodes ++ [⟨-77, 0, 0, 0⟩]))) := ⟨by rw [nodeCells_snoc, List.length_append]; exact hown⟩; clear hown hg6 hat))
      have HNS0 : Aside ((nodes ++ [(⟨-77, 0, 0, 0⟩ : Node)]).length = nodes.length + 1) := ⟨by simp⟩
      go_loopg [16] 2 (fun kq v16 wr => ∃ (r : Nat) (ns : List Node), Aside (r + kq = 2) ∧ v16 = .int .i64 r ∧ Aside (Below w.heap.size w wr) ∧ Aside (ns.length = nodes.length + 1) ∧ Aside (wr.ownsRow w.heap.size 27 4 (.slice (some ⟨g, 0, none⟩) (nodes.length + 1) cap) ns.length (nodeCells ns)))
      case atStart => exact ⟨0, _, ⟨rfl⟩, rfl, HB6, HNS0, HO6⟩
      case round =>
        clear HB6 HNS0 HO6 HB5 HR5 HS HT
        obtain ⟨r, ns, HR, rfl, HB, HNS, HRow⟩ := hrel
        have hr2 : r ≤ 2 := by have := HR.out; omega
        by_cases hr : r < 2
        · have HM : Aside (2 - (r + 1) < gk) := ⟨by have := HR.out; omega⟩
          have hnl : ns.length ≤ 16777216 := by have := HNS.out; have := HL16.out; omega
          have hc := Nodes_any (own_nodes HRow.out).sl hnl
          go_wp2_with fail
          refine hc.mono ?_
          clear hc
          rintro e w4 ⟨v4, rfl, ho4, B4⟩
          have HB4 := Aside.mk (bthen HB.out HB.out.size B4)
          have HR4 := Aside.mk (ownsRow_move HRow.out fun q e => B4.block q (HRow.out.lt q e).2)
          have hw4 := (own_nodes ho4).sl.mono (ok' := fun _ => True) fun _ _ => trivial
          obtain ⟨g4, cap4, rfl, hcap3, hcap4⟩ := own_gt ho4 (by have := HNS.out; omega)
          have HW4 := Aside.mk hw4
          have hk1 : nodes.length + 1 ≤ cap4 := by have := HNS.out; omega
          have hc := pencode_any gen n ((own_nodes HR4.out).sl.cutN (n' := nodes.length) (c' := nodes.length + 1) (by omega) (by omega) (by omega)) (by rw [List.length_take]; omega)
          clear ho4 hw4 B4 HB HRow hcap3
          go_wp2_with fail
          refine hc.mono ?_
          clear hc
          intro e w5 h5
          obtain ⟨Aa, ma, ca, Ab, mb, cb, rfl, s1, s2, B5⟩ := enc_res h5
          have HB5 := Aside.mk (bthen HB4.out HB4.out.size B5)
          have HR5 := Aside.mk (ownsRow_move HR4.out fun q e => B5.block q (HR4.out.lt q e).2)
          have HW5 := Aside.mk (HW4.out.below B5)
          have HH5 := Aside.mk s1
          have HD5 := Aside.mk s2
          have hns : ns.length = nodes.length + 1 := HNS.out
          have hw5 := HW5.out
          rw [hns] at hw5
          have hc := refEncode_any gen n (hw5.cutN (n' := nodes.length) (c' := cap4) (by omega) (by omega) (by omega)) (by rw [List.length_take]; omega)
          clear h5 s1 s2 B5 HB4 HR4 HW4 hw5
          rw [hns] at HW5 ⊢
          clear hns
          go_wp2_with fail
          refine hc.mono ?_
          clear hc
          intro e w6 h6
          obtain ⟨Ac, mc, cc, Ae, me, ce, rfl, s1, s2, B6⟩ := enc_res h6
          have HB6 := Aside.mk (bthen HB5.out HB5.out.size B6)
          have HR6 := Aside.mk (ownsRow_move HR5.out fun q e => B6.block q (HR5.out.lt q e).2)
          have HQ1 := Aside.mk (HH5.out.below B6)
          have HQ2 := Aside.mk (HD5.out.below B6)
          have HQ3 := Aside.mk s1
          have HQ4 := Aside.mk s2
          have hc := SameNodes_any (own_nodes HR6.out).sl (HW5.out.below B6)
          rw [eqB_yes rfl] at hc
          clear h6 s1 s2 B6 HB5 HR5 HW5 HH5 HD5
          generalize eE gen n (ns.take nodes.length) = z at *
          generalize eH gen n (ns.take nodes.length) = hh at *
          generalize eD gen n (ns.take nodes.length) = dd at *
          go_wp2_with fail
          refine hc.mono ?_
          clear hc
          rintro e w7 ⟨rfl, S7⟩
          have B7 := S7.below w6.heap.size
          have HB7 := Aside.mk (bthen HB6.out HB6.out.size B7)
          have HR7 := Aside.mk (ownsRow_move HR6.out fun q e => B7.block q (HR6.out.lt q e).2)
          have hc := SameBytes_any (HQ1.out.below B7) (HQ3.out.below B7)
          rw [eqB_yes rfl] at hc
          have HC2 := Aside.mk (SameByteLists_any (HQ2.out.below B7) (HQ4.out.below B7))
          clear S7 B7 HB6 HR6 HQ1 HQ2 HQ3 HQ4
          go_wp2_with fail
          refine hc.mono ?_
          clear hc
          rintro e w8 ⟨rfl, rfl⟩
          have hc := HC2.out
          rw [eqB_yes rfl] at hc
          clear HC2
          go_wp2_with fail
          refine hc.mono ?_
          clear hc
          rintro e w9 ⟨rfl, S9⟩
          have HB9 := Aside.mk (bthen HB7.out HB7.out.size (S9.below _))
          have HR9 := Aside.mk (ownsRow_move HR7.out fun q e => (S9.below _).block q (HR7.out.lt q e).2)
          clear S9 HB7 HR7
          go_wp2_with fail
          refine (num_any z w9).mono ?_
          rintro e w10 ⟨rfl, rfl⟩
          by_cases h0 : 0 < nodes.length
          · have dh : decide ((0 : Int) < (nodes.length : Int)) = true := decide_eq_true (by omega)
            have dhn : decide (0 < nodes.length) = true := decide_eq_true (by omega)
            obtain ⟨k, hk, hkl⟩ := mod_at at_ nodes.length h0 (by omega)
            have hkn : k < ns.length := by have := HNS.out; omega
            have hk2 : (k : Int) < (nodes.length : Int) + 1 := by omega
            obtain ⟨q, hq, hq4⟩ := mod_at what 4 (by omega) (by omega)
            have hq' : (wrap64 (what.tmod 4 + 4)).tmod 4 = (q : Int) := hq
            clear hq
            have hq3 : q = 0 ∨ q = 1 ∨ q = 2 ∨ q = 3 := by omega
            rcases hq3 with rfl | rfl | rfl | rfl
            · have HW := Aside.mk (node_set (f := 0) HR9.out hkn (by omega) to_)
              have hfz : w9.frozen? ⟨g, k * 4, none⟩ = false := HW.out.2.1
              obtain ⟨u, hu⟩ : ∃ u, w9.cell? ⟨g, k * 4, none⟩ = some u := HW.out.2.2
              have HNr : Aside ((w9.setCell ⟨g, k * 4, none⟩ (.int .i64 to_)).ownsRow w.heap.size 27 4 (.slice (some ⟨g, 0, none⟩) (nodes.length + 1) cap) (ns.set k (setF ns[k] 0 to_)).length (nodeCells (ns.set k (setF ns[k] 0 to_)))) := ⟨HW.out.1⟩
              have HNb : Aside (Below w.heap.size w (w9.setCell ⟨g, k * 4, none⟩ (.int .i64 to_))) := ⟨HB9.out.setCell HG.out _⟩
              have HNl : Aside ((ns.set k (setF ns[k] 0 to_)).length = nodes.length + 1) := ⟨by rw [List.length_set]; exact HNS.out⟩
              generalize ns.set k (setF ns[k] 0 to_) = ns2 at *
              clear HW HR9 HB9
              go_wp2
              go_roundg (2 - (r + 1))
              case measure => exact HM.out
              case rel => exact ⟨r + 1, ns2, ⟨by have := HR.out; have := HM.out; omega⟩, by go_num, HNb, HNl, HNr⟩
            · have HW := Aside.mk (node_set (f := 1) HR9.out hkn (by omega) to_)
              have hfz : w9.frozen? ⟨g, k * 4 + 1, none⟩ = false := HW.out.2.1
              obtain ⟨u, hu⟩ : ∃ u, w9.cell? ⟨g, k * 4 + 1, none⟩ = some u := HW.out.2.2
              have HNr : Aside ((w9.setCell ⟨g, k * 4 + 1, none⟩ (.int .i64 to_)).ownsRow w.heap.size 27 4 (.slice (some ⟨g, 0, none⟩) (nodes.length + 1) cap) (ns.set k (setF ns[k] 1 to_)).length (nodeCells (ns.set k (setF ns[k] 1 to_)))) := ⟨HW.out.1⟩
              have HNb : Aside (Below w.heap.size w (w9.setCell ⟨g, k * 4 + 1, none⟩ (.int .i64 to_))) := ⟨HB9.out.setCell HG.out _⟩
              have HNl : Aside ((ns.set k (setF ns[k] 1 to_)).length = nodes.length + 1) := ⟨by rw [List.length_set]; exact HNS.out⟩
              generalize ns.set k (setF ns[k] 1 to_) = ns2 at *
              clear HW HR9 HB9
              go_wp2
              go_roundg (2 - (r + 1))
              case measure => exact HM.out
              case rel => exact ⟨r + 1, ns2, ⟨by have := HR.out; have := HM.out; omega⟩, by go_num, HNb, HNl, HNr⟩
            · have HW := Aside.mk (node_set (f := 2) HR9.out hkn (by omega) to_)
              have hfz : w9.frozen? ⟨g, k * 4 + 2, none⟩ = false := HW.out.2.1
              obtain ⟨u, hu⟩ : ∃ u, w9.cell? ⟨g, k * 4 + 2, none⟩ = some u := HW.out.2.2
              have HNr : Aside ((w9.setCell ⟨g, k * 4 + 2, none⟩ (.int .i64 to_)).ownsRow w.heap.size 27 4 (.slice (some ⟨g, 0, none⟩) (nodes.length + 1) cap) (ns.set k (setF ns[k] 2 to_)).length (nodeCells (ns.set k (setF ns[k] 2 to_)))) := ⟨HW.out.1⟩
              have HNb : Aside (Below w.heap.size w (w9.setCell ⟨g, k * 4 + 2, none⟩ (.int .i64 to_))) := ⟨HB9.out.setCell HG.out _⟩
              have HNl : Aside ((ns.set k (setF ns[k] 2 to_)).length = nodes.length + 1) := ⟨by rw [List.length_set]; exact HNS.out⟩
              generalize ns.set k (setF ns[k] 2 to_) = ns2 at *
              clear HW HR9 HB9
              go_wp2
              go_roundg (2 - (r + 1))
              case measure => exact HM.out
              case rel => exact ⟨r + 1, ns2, ⟨by have := HR.out; have := HM.out; omega⟩, by go_num, HNb, HNl, HNr⟩
            · have HW := Aside.mk (node_set (f := 3) HR9.out hkn (by omega) to_)
              have hfz : w9.frozen? ⟨g, k * 4 + 3, none⟩ = false := HW.out.2.1
              obtain ⟨u, hu⟩ : ∃ u, w9.cell? ⟨g, k * 4 + 3, none⟩ = some u := HW.out.2.2
              have HNr : Aside ((w9.setCell ⟨g, k * 4 + 3, none⟩ (.int .i64 to_)).ownsRow w.heap.size 27 4 (.slice (some ⟨g, 0, none⟩) (nodes.length + 1) cap) (ns.set k (setF ns[k] 3 to_)).length (nodeCells (ns.set k (setF ns[k] 3 to_)))) := ⟨HW.out.1⟩
              have HNb : Aside (Below w.heap.size w (w9.setCell ⟨g, k * 4 + 3, none⟩ (.int .i64 to_))) := ⟨HB9.out.setCell HG.out _⟩
              have HNl : Aside ((ns.set k (setF ns[k] 3 to_)).length = nodes.length + 1) := ⟨by rw [List.length_set]; exact HNS.out⟩
              generalize ns.set k (setF ns[k] 3 to_) = ns2 at *
              clear HW HR9 HB9
              go_wp2
              go_roundg (2 - (r + 1))
              case measure => exact HM.out
              case rel => exact ⟨r + 1, ns2, ⟨by have := HR.out; have := HM.out; omega⟩, by go_num, HNb, HNl, HNr⟩
          · have dh : decide ((0 : Int) < (nodes.length : Int)) = false := decide_eq_false (by omega)
            have dhn : decide (0 < nodes.length) = false := decide_eq_false (by omega)
            go_wp2
            go_roundg (2 - (r + 1))
            case measure => exact HM.out
            case rel => exact ⟨r + 1, ns, ⟨by have := HR.out; have := HM.out; omega⟩, by go_num, HB9, HNS, HR9⟩
        · replace hr : 2 ≤ r := by omega
          go_wp2
          go_ret
          exact ⟨rfl, HB.out⟩
  · have d1 : decide (16384 < (nodes.length : Int)) = true := by simp; omega
    go_wp2_with fail
    go_ret
    exact ⟨rfl, HB1.out⟩
end Go.Proofs.YtikgdhmnnnicmaaDoor
