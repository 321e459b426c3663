/- The law's decodes: Decode of bytes that are handed in answers as the document's, and what is handed in stays. No condition. -/
import Derived.Test.YtgbladpoglhleaaGreatDoorDl
namespace Go.Proofs.YtgbladpoglhleaaGreatDoor
open Go.RowKit Go.Shelf
def ansM (head : List UInt8) (data : List (List UInt8)) : Man := (decM head data).getD ⟨0, 0, [], [], []⟩
def ansE (head : List UInt8) (data : List (List UInt8)) : Int := if (decM head data).isSome then 0 else 90
theorem DecPost.ans {w w' : World} {head : List UInt8} {data : List (List UInt8)} {e : Ending} (h : DecPost w head data e w') :
    ∃ A1 n1 c1 A2 n2 c2 A3 n3 c3, e = .returned (.tuple #[.agg #[.int .i64 (ansM head data).Gen, .int .i64 (ansM head data).N, .slice A1 n1 c1, .slice A2 n2 c2, .slice A3 n3 c3], .int .i64 (ansE head data)]) ∧
      ManV w' (w.heap.size ≤ ·) (.agg #[.int .i64 (ansM head data).Gen, .int .i64 (ansM head data).N, .slice A1 n1 c1, .slice A2 n2 c2, .slice A3 n3 c3]) (ansM head data) ∧ Below w.heap.size w w' := by
  obtain ⟨h1, h2, hb⟩ := h
  unfold ansM ansE
  cases hd : decM head data with
  | none =>
    refine ⟨none, 0, 0, none, 0, 0, none, 0, 0, h2 hd, ⟨_, _, _, rfl, Sl.nil _ _ _, Sl.nil _ _ _, Sl.nil _ _ _⟩, hb⟩
  | some m =>
    obtain ⟨v, rfl, cv, sv, dv, rfl, o1, o2, o3, _⟩ := h1 m hd
    obtain ⟨A1, c1, rfl⟩ := own_sl o1
    obtain ⟨A2, c2, rfl⟩ := own_sl o2
    obtain ⟨A3, c3, rfl⟩ := own_sl o3
    exact ⟨_, _, _, _, _, _, _, _, _, rfl, ⟨_, _, _, rfl, (own_ints o1).sl, (own_infos o2).sl, (own_ints o3).sl⟩, hb⟩
/-- The list under way: the first i rows are lent ones. -/
structure DLs (w : World) (lo gD capD : Nat) (vs : List Value) (data : List (List UInt8)) (i : Nat) : Prop where
  own : w.ownsRow lo 44 1 (.slice (some ⟨gD, 0, none⟩) (data.length + 1) capD) (data.length + 1) vs
  row : ∀ (k : Nat) (u : Value) (b : List UInt8), k < i → vs[k]? = some u → data[k]? = some b → LRow w lo u b [203] ∧ u.ownBlock ≠ some gD
  last : ∃ u, vs[data.length]? = some u ∧ LRow w lo u [202] [] ∧ u.ownBlock ≠ some gD
theorem DLs.len {w : World} {lo gD capD : Nat} {vs : List Value} {data : List (List UInt8)} {i : Nat} (h : DLs w lo gD capD vs data i) : vs.length = data.length + 1 := by
  have := h.own.1
  omega
theorem DLs.move {w w1 : World} {lo gD capD : Nat} {vs : List Value} {data : List (List UInt8)} {i : Nat} (h : DLs w lo gD capD vs data i) (hb : Below w.heap.size w w1) : DLs w1 lo gD capD vs data i := by
  refine ⟨ownsRow_move h.own fun q e => hb.block q (h.own.lt q e).2, fun k u b hk hu hbb => ?_, ?_⟩
  · obtain ⟨h1, h2⟩ := h.row k u b hk hu hbb
    refine ⟨h1.move fun q e => ?_, h2⟩
    obtain ⟨g, e2, _, c, hc⟩ := h1.at
    rw [e] at e2; cases e2
    exact hb.block q (blk_lt hc)
  · obtain ⟨u, hu, h1, h2⟩ := h.last
    refine ⟨u, hu, h1.move fun q e => ?_, h2⟩
    obtain ⟨g, e2, _, c, hc⟩ := h1.at
    rw [e] at e2; cases e2
    exact hb.block q (blk_lt hc)
theorem DLs.blk {w : World} {lo gD capD : Nat} {vs : List Value} {data : List (List UInt8)} {i : Nat} (h : DLs w lo gD capD vs data i) : ∃ cur : Array Value, w.heap[gD]? = some (.cells cur 44 (0, 0)) ∧ cur.size = capD ∧ data.length + 1 ≤ capD ∧ capD ≤ 9223372036854775807 ∧ lo ≤ gD ∧ ∀ (k : Nat) (u : Value), vs[k]? = some u → w.cell? ⟨gD, k, none⟩ = some u := by
  rcases h.own.2 with ⟨e, _⟩ | ⟨g, cap, cur, e, h1, h2, h3, h4, h5, h6⟩
  · cases e
  · cases e
    refine ⟨cur, h2, by simpa using h5, h3, by simp only [maxLen] at h4; omega, h1, fun k u hk => ?_⟩
    have := h.own.cells (g := gD) rfl k u hk
    rw [addr_add] at this
    simpa using this
theorem DLs.step {w w6 : World} {lo gD capD g cap : Nat} {vs : List Value} {data : List (List UInt8)} {i : Nat} (h : DLs w lo gD capD vs data i) (hB : Below w.heap.size w w6) (hi : i < data.length)
    (hr : LRow w6 lo (.slice (some ⟨g, 0, none⟩) data[i].length cap) data[i] [203]) (hg : w.heap.size ≤ g) : DLs (w6.setCell ⟨gD, i, none⟩ (.slice (some ⟨g, 0, none⟩) data[i].length cap)) lo gD capD (vs.set i (.slice (some ⟨g, 0, none⟩) data[i].length cap)) data (i + 1) := by
  have h6 := h.move hB
  obtain ⟨cur, hc, hsz, _⟩ := h.blk
  have hgD : gD < w.heap.size := blk_lt hc
  have hfar : ∀ q, q ≠ gD → (w6.setCell ⟨gD, i, none⟩ (.slice (some ⟨g, 0, none⟩) data[i].length cap)).heap[q]? = w6.heap[q]? := fun q hq => Below.heap_setCell _ _ _ _ hq
  have hlen := h.len
  refine ⟨?_, fun k u b hk hu hb => ?_, ?_⟩
  · refine ⟨by have := h6.own.1; simpa using this, ?_⟩
    rcases h6.own.2 with ⟨e, _⟩ | ⟨g', cap', cur', e, h1, h2, h3, h4, h5, h7⟩
    · cases e
    · cases e
      refine .inr ⟨gD, capD, cur'.setIfInBounds i (.slice (some ⟨g, 0, none⟩) data[i].length cap), rfl, h1, ?_, h3, h4, by simpa using h5, ?_⟩
      · simp [World.setCell, Array.getElem?_modify, h2]
      · rw [Array.toList_setIfInBounds, List.take_set, h7]
  · rcases Nat.lt_succ_iff_lt_or_eq.1 hk with hk | rfl
    · rw [List.getElem?_set_ne (by omega)] at hu
      obtain ⟨h1, h2⟩ := h6.row k u b hk hu hb
      exact ⟨h1.move fun q e => hfar q fun e2 => h2 (e2 ▸ e), h2⟩
    · rw [List.getElem?_set_self (by omega)] at hu
      cases hu
      rw [List.getElem?_eq_getElem hi] at hb
      cases hb
      have hne : g ≠ gD := by omega
      exact ⟨hr.move fun q e => hfar q fun e2 => hne ((Option.some.inj e).trans e2), fun e => hne (Option.some.inj e)⟩
  · obtain ⟨u, hu, h1, h2⟩ := h6.last
    refine ⟨u, by rw [List.getElem?_set_ne (by omega)]; exact hu, h1.move fun q e => hfar q fun e2 => h2 (e2 ▸ e), h2⟩
theorem DLs.sl {w : World} {lo gD capD : Nat} {vs : List Value} {data : List (List UInt8)} (h : DLs w lo gD capD vs data data.length) : Sl (kslice kbyte) w (lo ≤ ·) (.slice (some ⟨gD, 0, none⟩) data.length capD) data := by
  obtain ⟨cur, hc, hsz, h1, h2, h3, h4⟩ := h.blk
  have hlen := h.len
  refine ⟨_, capD, rfl, by omega, h2, fun _ => ⟨gD, 0, rfl, h3, blk_lt hc, fun i x hx => ?_⟩⟩
  obtain ⟨hi, rfl⟩ := List.getElem?_eq_some_iff.1 hx
  have hv : vs[i]? = some vs[i] := List.getElem?_eq_getElem (by omega)
  refine ⟨[vs[i]], ⟨vs[i], rfl, (h.row i _ _ hi hv (List.getElem?_eq_getElem hi)).1.sl.mono fun q hq => hq.1⟩, fun j u hj => ?_⟩
  cases j with
  | zero =>
    cases hj
    have := h4 i _ hv
    simpa [kslice] using this
  | succ j => simp at hj
theorem ManV.st {w : World} {lo lo1 R : Nat} {v a b c d e : Value} {m : Man} (h : ManV w (lo1 ≤ ·) v m) (hR : R < lo1) (hl : lo ≤ lo1) : ManV (st5 w R a b c d e) (lo ≤ ·) v m := by
  obtain ⟨x, y, z, e, h1, h2, h3⟩ := h
  exact ⟨x, y, z, e, (h1.step fun k hk _ => st5_heap (by omega)).mono fun k hk => Nat.le_trans hl hk, (h2.step fun k hk _ => st5_heap (by omega)).mono fun k hk => Nat.le_trans hl hk, (h3.step fun k hk _ => st5_heap (by omega)).mono fun k hk => Nat.le_trans hl hk⟩
theorem mem_sumL {b : List UInt8} : ∀ {data : List (List UInt8)}, b ∈ data → b.length ≤ sumL data
  | [], h => by simp at h
  | x :: l, h => by
    have ih := @mem_sumL b l
    simp only [sumL, List.map_cons, List.sum_cons] at ih ⊢
    rcases List.mem_cons.1 h with rfl | h
    · omega
    · have := ih h
      omega
set_option maxHeartbeats 8000000 in
set_option maxRecDepth 100000 in
theorem decodes_any {w : World} {ok : Nat → Prop} {hv dv : Value} {head : List UInt8} {data : List (List UInt8)} (hh : Sl kbyte w ok hv head) (hd : Sl (kslice kbyte) w ok dv data) (hs : sumL data ≤ 16777216) (hhl : head.length ≤ 1099511627776) (hdl : data.length ≤ 16777215) :
    Calls Tryz.prog 29 #[hv, dv] w fun e w' => e = .returned (.bool true) ∧ Below w.heap.size w w' := by
  obtain ⟨Ah, ch, rfl, hch, hmh⟩ := hh.slice
  obtain ⟨Ad, cd, rfl, hcd, hmd⟩ := hd.slice
  have HH : Aside (∀ W, Below w.heap.size w W → Sl kbyte W (fun k => ok k ∧ k < w.heap.size) (.slice Ah head.length ch) head) := ⟨fun W hW => hh.bound.move fun k hk => hW.block k hk.2⟩
  have HD : Aside (∀ W, Below w.heap.size w W → Sl (kslice kbyte) W (fun k => ok k ∧ k < w.heap.size) (.slice Ad data.length cd) data) := ⟨fun W hW => hd.bound.move fun k hk => hW.block k hk.2⟩
  have HS := Aside.mk hs
  have HRowL : Aside (∀ b ∈ data, b.length ≤ 16777216) := ⟨fun b hb => Nat.le_trans (mem_sumL hb) hs⟩
  have hcall := Bytes_any (HH.out w (Below.refl _ _)) hhl
  clear hh hd hs
  go_enter Tryz.func29, Tryz.ntmps29
  go_wp2_with fail
  refine hcall.mono ?_
  clear hcall
  rintro e w1 ⟨v1, rfl, ho, B1⟩
  have HO := Aside.mk ho
  have HB := Aside.mk B1
  obtain ⟨A1, m1, c1, rfl⟩ := own_slice ho
  clear ho B1
  go_wp2_with (at_builtin; go_must (refine app_one w.heap.size rfl _ _ 44 5 (.int .u8 0) 1 1 rfl Tryz.underlying44 Tryz.infoByte rfl (by decide) (by decide) (.slice A1 m1 c1) head.length _ [.int .u8 201] rfl rfl rfl (by simp [Value.oneCell']) HO.out HB.out.size (by omega) ?_; intro v2 w2 hown hg hat; obtain ⟨gh, caph, rfl, hc1, hc2⟩ := own_pos hown (by omega); have HB2 := Aside.mk (HB.out.grown hg HB.out.size fun q e => (HO.out.lt q e).1); have HLh : Aside (LRow w2 w.heap.size (.slice (some ⟨gh, 0, none⟩) head.length caph) head [201]) := ⟨gh, caph, rfl, by rw [List.length_append]; simpa [u8s] using hown⟩; clear hown hg hat))
  refine (ByteLists_any (HD.out w2 HB2.out) (by omega) (fun b hb => Nat.le_trans (HRowL.out b hb) (by omega))).mono ?_
  rintro e w3 ⟨v3, vs3, rfl, hbl, B3⟩
  have HBL := Aside.mk hbl
  have HB3 := Aside.mk (bthen HB2.out HB2.out.size B3)
  have HLh3 : Aside (LRow w3 w.heap.size (.slice (some ⟨gh, 0, none⟩) head.length caph) head [201]) := Aside.mk (HLh.out.move fun q e => by
    obtain ⟨g, e2, _, c, hc⟩ := HLh.out.at
    rw [e] at e2; cases e2
    exact B3.block q (blk_lt hc))
  obtain ⟨A3, m3, c3, rfl⟩ := own_slice hbl.own
  have HOl : Aside ((w3.alloc (.cells #[.int .u8 202] 5)).ownsRow w.heap.size 44 1 (.slice A3 m3 c3) data.length vs3) := ⟨(own_low HBL.out.own HB2.out.size).alloc _⟩
  have HBa := Aside.mk (HB3.out.alloc HB3.out.size (.cells #[.int .u8 202] 5))
  have HNw := Aside.mk (heap_alloc_new w3 (.cells #[.int .u8 202] 5))
  have HLt : Aside (∀ q, (Value.slice A3 m3 c3).ownBlock = some q → w.heap.size ≤ q ∧ q < w3.heap.size) := ⟨fun q e => by have := HBL.out.own.lt q e; have := HB2.out.size; omega⟩
  have HLh4 : Aside (LRow (w3.alloc (.cells #[.int .u8 202] 5)) w.heap.size (.slice (some ⟨gh, 0, none⟩) head.length caph) head [201]) := Aside.mk (HLh3.out.move fun q e => by
    obtain ⟨g, e2, _, c, hc⟩ := HLh3.out.at
    rw [e] at e2; cases e2
    exact ((Below.refl w3.heap.size w3).alloc (Nat.le_refl _) (.cells #[.int .u8 202] 5)).block q (blk_lt hc))
  have hw3l : w.heap.size ≤ w3.heap.size := HB3.out.size
  have HLhB : Aside (∀ q, (Value.slice (some ⟨gh, 0, none⟩) head.length caph).ownBlock = some q → (Value.slice A3 m3 c3).ownBlock ≠ some q) := ⟨fun q e e2 => by
    obtain ⟨g, e3, _, c, hc⟩ := HLh.out.at
    rw [e] at e3; cases e3
    have := blk_lt hc
    have := (HBL.out.own.lt q e2).1
    omega⟩
  have HW3 := Aside.mk hw3l
  clear hbl B3 HLh HB HB2 HB3 HLh3 HBL HO hw3l
  obtain ⟨a1, ha1⟩ : ∃ a1, a1 = w3.heap.size := ⟨_, rfl⟩
  go_wp2_with (at_builtin; go_must (refine app_one w.heap.size rfl _ _ 45 44 (.slice none 0 0) 1 24 rfl Tryz.underlying45 Tryz.infoBytes rfl (by decide) (by decide) (.slice A3 m3 c3) data.length vs3 [.slice (some ⟨w3.heap.size, 0, none⟩) 1 1] rfl (by first | rfl | (simp [Act.eval])) rfl (by simp [Value.oneCell']) HOl.out HBa.out.size (by omega) ?_; intro v4 w4 hown hg hat; obtain ⟨gD, capD, rfl, hcD1, hcD2⟩ := own_pos hown (by omega); have HOw := Aside.mk hown; have HGr := Aside.mk hg; clear hown hg hat))
  have HB4 := Aside.mk (HBa.out.grown HGr.out HBa.out.size fun q e => (HLt.out q e).1)
  have HLh5 : Aside (LRow w4 w.heap.size (.slice (some ⟨gh, 0, none⟩) head.length caph) head [201]) := Aside.mk (HLh4.out.move fun q e => by
    obtain ⟨g, e2, _, c, hc⟩ := HLh4.out.at
    rw [e] at e2; cases e2
    exact HGr.out.block q (blk_lt hc) fun e3 => HLhB.out q e e3.symm)
  have HDL : Aside (DLs w4 w.heap.size gD capD (vs3 ++ [.slice (some ⟨w3.heap.size, 0, none⟩) 1 1]) data 0) := ⟨by
    have hl : vs3.length = data.length := by have := HOl.out.1; omega
    have hn : w4.heap[w3.heap.size]? = some (.cells #[.int .u8 202] 5 (0, 0)) := (HGr.out.block w3.heap.size (by simp) fun e3 => by have := HLt.out _ e3.symm; omega).trans HNw.out
    refine ⟨HOw.out, fun k u b hk => absurd hk (Nat.not_lt_zero _), ⟨_, by rw [List.getElem?_append_right (by omega), hl]; simp, ⟨w3.heap.size, 1, rfl, ⟨rfl, .inr ⟨w3.heap.size, 1, _, rfl, HW3.out, hn, by decide, by simp [maxLen], rfl, rfl⟩⟩⟩, fun e => ?_⟩⟩
    have e2 := Option.some.inj e
    rcases HOw.out.2 with ⟨e3, _⟩ | ⟨g', cap', cur, e3, h1, h2, _⟩
    · cases e3
    · cases e3
      rw [← e2, hn] at h2
      cases h2⟩
  have hch5 := HLh5.out.cells
  have HCh := Aside.mk hch5
  obtain ⟨-, hcapl, hcapm, -⟩ := hch5
  rw [List.length_append, List.length_singleton] at hcapl
  clear HBa HLh4 HOl HNw HLt HOw HGr ha1 HLhB
  go_loopg [7] data.length (fun kq v7 wr => ∃ (i : Nat) (vs : List Value), Aside (i + kq = data.length) ∧ v7 = .int .i64 i ∧ Aside (Below w.heap.size w wr) ∧ Aside (LRow wr w.heap.size (.slice (some ⟨gh, 0, none⟩) head.length caph) head [201]) ∧ Aside (DLs wr w.heap.size gD capD vs data i))
  case atStart => exact ⟨0, _, ⟨by omega⟩, rfl, HB4, HLh5, HDL⟩
  case round =>
    clear HDL HLh5 HB4
    obtain ⟨i, vs, HI, rfl, HB, HLh, HDL⟩ := hrel
    obtain ⟨cur, hgD, hcsz, hcD3, hcD4, hgDl, hcells⟩ := HDL.out.blk
    have HCel := Aside.mk hcells
    have HGd := Aside.mk hgD
    have HGl := Aside.mk hgDl
    clear hcells hgD hgDl
    by_cases hi : i < data.length
    · obtain ⟨bd, od, e, hbd⟩ : ∃ bd od, Ad = some ⟨bd, od, none⟩ ∧ bd < w.heap.size := by
        obtain ⟨A', c', e, _, _, h3⟩ := HD.out wr HB.out
        cases e
        obtain ⟨b, o, e, h4, _⟩ := h3 (by omega)
        exact ⟨b, o, e, h4.2⟩
      subst e
      have HBd : Aside (bd < w.heap.size) := ⟨hbd⟩
      obtain ⟨bd', od', q1, e, hcb, s1⟩ := (HD.out wr HB.out).row i hi
      cases e
      have hbl : data[i].length ≤ 1099511627776 := Nat.le_trans (HRowL.out _ (List.getElem_mem hi)) (by omega)
      have HM : Aside (data.length - (i + 1) < gk ∧ i + 1 + (data.length - (i + 1)) = data.length) := ⟨by have := HI.out; omega⟩
      have HSt := Aside.mk (fun (w6 : World) (g cap : Nat) (h1 : Below wr.heap.size wr w6) (h2 : LRow w6 w.heap.size (.slice (some ⟨g, 0, none⟩) data[i].length cap) data[i] [203]) (h3 : wr.heap.size ≤ g) => HDL.out.step h1 hi h2 h3)
      obtain ⟨Ab, cb, rfl, _⟩ := s1.slice
      have bl1 : Below wr.heap.size wr wr.drew := bdrew1 (Below.refl _ _)
      have bl2 := bl1.alloc (Nat.le_refl _) (.cells #[.int .u8 203] 5)
      have HI1 := Aside.mk (Bytes_any (s1.below bl1) hbl)
      have HI2 := Aside.mk (Bytes_any (s1.below bl2) hbl)
      have HBL : Aside (data[i].length ≤ 16777216) := ⟨HRowL.out _ (List.getElem_mem hi)⟩
      clear s1 hbl
      generalize data[i] = bs at *
      have hk : wr.drew.cell? ⟨bd, od + i, none⟩ = some (.slice Ab bs.length cb) := hcb
      have HN1 : Aside (∀ w5 v5, w5.ownsRow wr.drew.heap.size 5 1 v5 bs.length (u8s bs) → Below wr.drew.heap.size wr.drew w5 → (w5.alloc (.cells #[.int .u8 203] 5)).ownsRow wr.heap.size 5 1 v5 bs.length (u8s bs) ∧ (w5.alloc (.cells #[.int .u8 203] 5)).heap[w5.heap.size]? = some (.cells #[.int .u8 203] 5 (0, 0)) ∧ Below wr.heap.size wr (w5.alloc (.cells #[.int .u8 203] 5)) ∧ w5.cell? ⟨bd, od + i, none⟩ = some (.slice Ab bs.length cb)) := ⟨fun w5 v5 h q => ⟨h.alloc _, heap_alloc_new _ _, (bl1.trans q).alloc q.size _, bcell q hk⟩⟩
      have HN2 : Aside (∀ w5 v5, w5.ownsRow (wr.drew.alloc (.cells #[.int .u8 203] 5)).heap.size 5 1 v5 bs.length (u8s bs) → Below (wr.drew.alloc (.cells #[.int .u8 203] 5)).heap.size (wr.drew.alloc (.cells #[.int .u8 203] 5)) w5 → w5.ownsRow wr.heap.size 5 1 v5 bs.length (u8s bs) ∧ w5.heap[wr.heap.size]? = some (.cells #[.int .u8 203] 5 (0, 0)) ∧ Below wr.heap.size wr w5 ∧ w5.cell? ⟨bd, od + i, none⟩ = some (.slice Ab bs.length cb)) := ⟨fun w5 v5 h q => ⟨own_low h (by simp), bblk q (heap_alloc_new wr.drew _), bthen bl2 bl2.size q, bcell q ((bcell bl2 hk))⟩⟩
      have HMv : Aside (∀ (w6 : World) (v : Value), Below wr.heap.size wr w6 → LRow (w6.setCell ⟨gD, i, none⟩ v) w.heap.size (.slice (some ⟨gh, 0, none⟩) head.length caph) head [201]) := ⟨fun w6 v hb => HLh.out.move fun q e => by
        obtain ⟨g, e2, _, c, hc⟩ := HLh.out.at
        rw [e] at e2; cases e2
        refine (Below.heap_setCell _ _ _ _ fun e3 => ?_).trans (hb.block q (blk_lt hc))
        have e4 : q = gD := e3
        rw [e4, HGd.out] at hc
        cases hc⟩
      clear bl1 bl2
      obtain ⟨ii, hii, hiz, his, hib⟩ := info_parts Tryz.infoByte
      have hi1 : (i : Int) < (data.length : Int) := by omega
      have hi0 : (0 : Int) ≤ (i : Int) := by omega
      have hne : gD ≠ bd := by have := HGl.out; omega
      have hi2 : (i : Int) < (data.length : Int) + 1 := by omega
      go_wp2_with fail
      go_region_held3 (fun w' => w'.cell? ⟨bd, od + i, none⟩ = some (.slice Ab bs.length cb)) (first | (go_keep; done) | exact set_far (by show gD ≠ bd; exact hne) (by assumption))
        (first
          | (go_at_call 56; refine HI1.out.mono ?_; rintro e w5 ⟨v5, rfl, ho5, B5⟩; obtain ⟨ho, hx, hb5, k5⟩ := HN1.out _ _ ho5 B5; have HO := Aside.mk ho; have HX := Aside.mk hx; have HB5 := Aside.mk hb5; obtain ⟨A5, n5, c5, rfl⟩ := own_slice ho; clear ho5 B5 ho hx hb5)
          | (go_at_call 56; refine HI2.out.mono ?_; rintro e w5 ⟨v5, rfl, ho5, B5⟩; obtain ⟨ho, hx, hb5, k5⟩ := HN2.out _ _ ho5 B5; have HO := Aside.mk ho; have HX := Aside.mk hx; have HB5 := Aside.mk hb5; obtain ⟨A5, n5, c5, rfl⟩ := own_slice ho; clear ho5 B5 ho hx hb5)
          | (refine step_append_lies _ (by rfl) _ _ _ (by rfl) wr.heap.size 5 ii _ 1 1 Tryz.underlying44 (by assumption) (by assumption) (by assumption) (by assumption) rfl (by decide) _ bs.length (u8s bs) (by rfl) HO.out ⟨_, 0, none⟩ 1 1 [.int .u8 203] (by rfl) (by rfl) (World.news_of_block HX.out) (by simp [Value.oneCell']) (by decide) (by simp only [maxLen]; have := HBL.out; omega) (by have := HBL.out; omega) HB5.out.size _ rfl ?_; intro g cap w6 hown hg hat hlt; have HB6 := Aside.mk (HB5.out.grown hg HB5.out.size fun q e => (HO.out.lt q e).1); have hcap := own_cap hown; have HLw := hown.lt g rfl; have HLr : Aside (LRow w6 w.heap.size (.slice (some ⟨g, 0, none⟩) bs.length cap) bs [203]) := ⟨g, cap, rfl, by rw [List.length_append]; exact own_low (by simpa [u8s] using hown) HB.out.size⟩; have HSt6 := Aside.mk (HSt.out w6 g cap HB6.out HLr.out HLw.1); have q1 : (0 : Int) ≤ (bs.length : Int) := Int.natCast_nonneg _; have q2 : (bs.length : Int) ≤ (cap : Int) := Int.ofNat_le.2 (Nat.le_trans (Nat.le_succ _) hcap.1); have c6 := bblk HB6.out HGd.out; have c7 := store_at c6 i (show i < cur.size by omega); obtain ⟨c7, c8, c9⟩ := c7; have k6 := bcell HB6.out hk; have HBs := Aside.mk ((HB.out.trans (HB6.out.mono HB.out.size)).setCell (p := ⟨gD, i, none⟩) HGl.out (.slice (some ⟨g, 0, none⟩) bs.length cap)); have HLs : Aside (LRow (w6.setCell ⟨gD, i, none⟩ (.slice (some ⟨g, 0, none⟩) bs.length cap)) w.heap.size (.slice (some ⟨gh, 0, none⟩) head.length caph) head [201]) := ⟨HMv.out w6 _ HB6.out⟩; clear hown hg hat hlt))
      all_goals (go_wp2_with fail; go_roundg (data.length - (i + 1)); (case measure => exact HM.out.1); (case rel => exact ⟨i + 1, _, ⟨HM.out.2⟩, by go_num, HBs, HLs, HSt6⟩))
    · have hie : i = data.length := by have := HI.out; omega
      have HDe : Aside (DLs wr w.heap.size gD capD vs data data.length) := ⟨by rw [← hie]; exact HDL.out⟩
      have hi1 : ¬ ((i : Int) < (data.length : Int)) := by omega
      clear HDL HI hie hi
      have bd1 : Below wr.heap.size wr wr.drew := bdrew1 (Below.refl _ _)
      have bd2 := bd1.alloc (Nat.le_refl _) (.cells #[.int .i64 0, .int .i64 0, .slice none 0 0, .slice none 0 0, .slice none 0 0] 33)
      have HLr : ∀ W, Below wr.heap.size wr W → Aside (LRow W w.heap.size (.slice (some ⟨gh, 0, none⟩) head.length caph) head [201]) := fun W hW => ⟨HLh.out.move fun q e => by
        obtain ⟨g, e2, _, c, hc⟩ := HLh.out.at
        rw [e] at e2; cases e2
        exact hW.block q (blk_lt hc)⟩
      have HI1 := Aside.mk (decode_any (((HLr _ bd1).out.sl).mono (ok' := fun q => w.heap.size ≤ q) fun q hq => hq.1) (HDe.out.move bd1).sl HS.out)
      have HI2 := Aside.mk (decode_any (((HLr _ bd2).out.sl).mono (ok' := fun q => w.heap.size ≤ q) fun q hq => hq.1) (HDe.out.move bd2).sl HS.out)
      have HBd2 := Aside.mk bd2
      have HNz : Aside ((wr.drew.alloc (.cells #[.int .i64 0, .int .i64 0, .slice none 0 0, .slice none 0 0, .slice none 0 0] 33)).heap[wr.heap.size]? = some (.cells #[.int .i64 0, .int .i64 0, .slice none 0 0, .slice none 0 0, .slice none 0 0] 33 (0, 0))) := ⟨heap_alloc_new wr.drew _⟩
      have q0 : (0 : Int) ≤ (head.length : Int) := Int.natCast_nonneg _
      have q1 : (head.length : Int) ≤ (caph : Int) := by omega
      have q2 : (0 : Int) ≤ (data.length : Int) := Int.natCast_nonneg _
      have q3 : (data.length : Int) ≤ (capD : Int) := by omega
      have HLr' := Aside.mk HLr
      clear bd1 bd2 HLr
      go_wp2_with fail
      go_cut [8, 9] (fun v8 v9 wx => ∃ R A1' n1' c1' A2' n2' c2' A3' n3' c3', v8 = .pointer (some ⟨R, 0, none⟩) ∧ v9 = .int .i64 (ansE head data) ∧ Aside (Below wr.heap.size wr wx) ∧ Aside (wx.heap[R]? = some (.cells #[.int .i64 (ansM head data).Gen, .int .i64 (ansM head data).N, .slice A1' n1' c1', .slice A2' n2' c2', .slice A3' n3' c3'] 33 (0, 0))) ∧ Aside (wr.heap.size ≤ R) ∧ Aside (ManV wx (wr.heap.size ≤ ·) (.agg #[.int .i64 (ansM head data).Gen, .int .i64 (ansM head data).N, .slice A1' n1' c1', .slice A2' n2' c2', .slice A3' n3' c3']) (ansM head data)))
      case first =>
        go_region_held3 (fun _ => True) (trivial)
          (first
            | (go_at_call 32; refine HI1.out.mono ?_; intro e w6 hdp; obtain ⟨A1', n1', c1', A2', n2', c2', A3', n3', c3', rfl, hm1, hb1⟩ := hdp.ans; clear hdp; have HM1 := Aside.mk hm1; have HB1 := Aside.mk hb1; clear hm1 hb1)
            | (go_at_call 32; refine HI2.out.mono ?_; intro e w6 hdp; obtain ⟨A1', n1', c1', A2', n2', c2', A3', n3', c3', rfl, hm1, hb1⟩ := hdp.ans; clear hdp; have HM1 := Aside.mk hm1; have HB1 := Aside.mk hb1; have HR6 := bblk hb1 HNz.out; obtain ⟨k0, k1, k2, k3, k4⟩ := five HR6; obtain ⟨f0, f1, f2, f3, f4⟩ := frz5 HR6; clear hm1 hb1))
        all_goals (go_wp2_with fail; go_meet; (case rel => first
          | exact ⟨wr.heap.size, A1', n1', c1', A2', n2', c2', A3', n3', c3', rfl, rfl, ⟨st5_below (bthen HBd2.out HBd2.out.size HB1.out) (Nat.le_refl _)⟩, ⟨st5_row HR6⟩, ⟨Nat.le_refl _⟩, ⟨HM1.out.st (by simp) (by simp)⟩⟩
          | exact ⟨w6.heap.size, A1', n1', c1', A2', n2', c2', A3', n3', c3', rfl, rfl, ⟨((bdrew1 (Below.refl _ _)).trans HB1.out).alloc (by have := HB1.out.size; simpa using this) _⟩, ⟨heap_alloc_new _ _⟩, ⟨by have := HB1.out.size; simpa using this⟩, ⟨HM1.out.below ((Below.refl w6.heap.size w6).alloc (Nat.le_refl _) _)⟩⟩))
      case rest =>
        obtain ⟨R, A1', n1', c1', A2', n2', c2', A3', n3', c3', rfl, rfl, HB1, HR1, HRl, HM1⟩ := hcut
        have HBc := Aside.mk (bthen HB.out HB.out.size HB1.out)
        have hcall := refDecode_any (HH.out wc HBc.out) (HD.out wc HBc.out) HS.out
        clear HI1 HI2 HBd2 HNz
        go_wp2_with fail
        refine hcall.mono ?_
        clear hcall
        intro e w7 hdp
        obtain ⟨B1', p1', d1', B2', p2', d2', B3', p3', d3', rfl, hm2, hb2⟩ := hdp.ans
        have bx : Below w7.heap.size w7 (w7.alloc (.cells #[.int .i64 (ansM head data).Gen, .int .i64 (ansM head data).N, .slice B1' p1' d1', .slice B2' p2' d2', .slice B3' p3' d3'] 33)) := (Below.refl _ _).alloc (Nat.le_refl _) _
        have HRx := bblk bx (bblk hb2 HR1.out)
        obtain ⟨k0, k1, k2, k3, k4⟩ := five HRx
        have HMx := Aside.mk ((HM1.out.below hb2).below bx)
        have HMy := Aside.mk (hm2.below bx)
        have HB7 := Aside.mk (hb2.trans (bx.mono hb2.size))
        clear hdp hm2 hb2 bx HRx HM1 HR1 HRl
        generalize hE : ansE head data = E at *
        clear hE
        go_wp2_with fail
        refine (SameManifest_any HMx.out HMy.out).mono ?_
        rintro e w8 ⟨he, B8⟩
        rw [eqB_yes rfl] at he
        subst he
        have HB8 := Aside.mk (bthen HB1.out HB1.out.size (HB7.out.trans (B8.mono HB7.out.size)))
        clear B8 HB7 HMx HMy k0 k1 k2 k3 k4
        go_wp2_with fail
        refine (num_any _).mono ?_
        rintro e w9 ⟨rfl, rfl⟩
        have HL8 := HLr'.out w9 HB8.out
        have HD8 := Aside.mk (HDe.out.move HB8.out)
        have HBw := Aside.mk (bthen HB.out HB.out.size HB8.out)
        have hcs1 := SameBytes_any HL8.out.sl (HH.out w9 HBw.out)
        rw [eqB_yes rfl] at hcs1
        obtain ⟨_, _, _, hcl⟩ := HL8.out.cells
        have h201 := hcl head.length (by simp)
        simp only [List.getElem_concat_length] at h201
        have h201' : w9.cell? ⟨gh, head.length, none⟩ = some (.int .u8 201) := by rw [h201]; rfl
        clear hcl h201
        obtain ⟨u, hu, ⟨gu, cu, rfl, hou⟩, _⟩ := HD8.out.last
        obtain ⟨cur8, hc8, hs8, _, _, _, hcell8⟩ := HD8.out.blk
        have hlast := hcell8 _ _ hu
        have HCell8 := Aside.mk hcell8
        clear hu hou hc8 hs8 hcell8
        have r1 : (head.length : Int) < (head.length : Int) + 1 := by omega
        have r2 : (data.length : Int) < (data.length : Int) + 1 := by omega
        have hcs2 := SameByteLists_any HD8.out.sl (HD.out w9 HBw.out)
        rw [eqB_yes rfl] at hcs2
        have HC2 := Aside.mk hcs2
        clear hcs2
        go_wp2_with fail
        refine hcs1.mono ?_
        clear hcs1
        rintro e wa ⟨rfl, rfl⟩
        go_wp2_with fail
        refine HC2.out.mono ?_
        clear HC2
        rintro e wb ⟨rfl, ⟨qb, rfl⟩⟩
        have hlast' : (wa.drewN qb).cell? ⟨gD, data.length, none⟩ = some (.slice (some ⟨gu, 0, none⟩) 1 cu) := hlast
        have HDb : Aside (DLs (wa.drewN qb) w.heap.size gD capD vs data data.length) := ⟨HD8.out.move (bdrew (Below.refl _ _) qb)⟩
        have HBb := Aside.mk (bdrew HBw.out qb)
        clear HD8 HB8 HBw hlast HCell8 HL8
        generalize wa.drewN qb = wz at *
        go_wp2_with fail
        go_loopg [13, 14] data.length (fun kq v13 v14 wr2 => ∃ i : Nat, Aside (i + kq = data.length) ∧ v14 = .int .i64 i ∧ v13 = .bool true ∧ Aside (Below w.heap.size w wr2) ∧ Aside (DLs wr2 w.heap.size gD capD vs data data.length))
        case atStart => exact ⟨0, ⟨by omega⟩, rfl, rfl, HBb, HDb⟩
        case round =>
          clear HBb HDb hlast'
          obtain ⟨j, HJ, rfl, rfl, HBb, HDb⟩ := hrel
          obtain ⟨wy, rfl⟩ : ∃ wy, wy = wr := ⟨_, rfl⟩
          by_cases hj : j < data.length
          · obtain ⟨bd, od, e, hbd⟩ : ∃ bd od, Ad = some ⟨bd, od, none⟩ ∧ bd < w.heap.size := by
              obtain ⟨A', c', e, _, _, h3⟩ := HD.out wy HBb.out
              cases e
              obtain ⟨b, o, e, h4, _⟩ := h3 (by omega)
              exact ⟨b, o, e, h4.2⟩
            subst e
            obtain ⟨bd', od', q1, e, hcb, s1⟩ := (HD.out wy HBb.out).row j hj
            cases e
            have hM : Aside (data.length - (j + 1) < gk ∧ j + 1 + (data.length - (j + 1)) = data.length) := ⟨by have := HJ.out; omega⟩
            have hlv := HDb.out.len
            have hvj : vs[j]? = some vs[j] := List.getElem?_eq_getElem (by omega)
            obtain ⟨cur8, hc8, hs8, _, _, _, hcell8⟩ := HDb.out.blk
            have hcj := hcell8 _ _ hvj
            obtain ⟨hlr, -⟩ := HDb.out.row j vs[j] data[j] hj hvj (List.getElem?_eq_getElem hj)
            have hsl := s1
            obtain ⟨Ab, cb, rfl, _⟩ := hsl.slice
            clear hsl s1
            generalize vs[j] = u at *
            generalize data[j] = bs at *
            obtain ⟨gu, cu, rfl, hou⟩ := hlr
            obtain ⟨-, hcu1, hcu2, hmk⟩ := LRow.cells (n := bs.length) (w := wy) ⟨gu, cu, rfl, hou⟩
            have h203 := hmk bs.length (by simp)
            simp only [List.getElem_concat_length] at h203
            have h203' : wy.cell? ⟨gu, bs.length, none⟩ = some (.int .u8 203) := by rw [h203]; rfl
            rw [List.length_append, List.length_singleton] at hcu1
            have g0 : (0 : Int) ≤ (bs.length : Int) := Int.natCast_nonneg _
            have g1 : (bs.length : Int) + 1 ≤ (cu : Int) := by omega
            have g2 : (bs.length : Int) < (bs.length : Int) + 1 := by omega
            have g3 : (0 : Int) ≤ (bs.length : Int) + 1 := by omega
            have g4 : (bs.length : Int) + 1 ≤ 9223372036854775807 := by omega
            have j0 : (0 : Int) ≤ (j : Int) := Int.natCast_nonneg _
            have j1 : (j : Int) < (data.length : Int) := by omega
            have j2 : (j : Int) < (data.length : Int) + 1 := by omega
            have HDn : Aside (∀ q, Below w.heap.size w (wy.drewN q) ∧ DLs (wy.drewN q) w.heap.size gD capD vs data data.length) := ⟨fun q => ⟨bdrew HBb.out q, HDb.out.move (bdrew (Below.refl _ _) q)⟩⟩
            clear hou hmk h203 hcell8 hc8 hvj HBb HDb
            go_wp2_with fail
            go_quiet (fail)
            go_wp2_with fail
            go_roundg (data.length - (j + 1))
            case measure => exact hM.out.1
            case rel => exact ⟨j + 1, ⟨hM.out.2⟩, by go_num, by first | rfl | simp, ⟨(HDn.out _).1⟩, ⟨(HDn.out _).2⟩⟩
          · have j1 : ¬ ((j : Int) < (data.length : Int)) := by omega
            have HP := HBb
            clear HBb HDb
            go_wp2_with fail
            go_ret
            exact ⟨rfl, HP.out⟩
end Go.Proofs.YtgbladpoglhleaaGreatDoor
