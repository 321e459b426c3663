/- The law NestDecodes walked: true at every input whose lists of bytes are of at most 1048576. -/
import Derived.Test.YtikgdhmnnnicmaaLs
import Derived.Test.Ytikgdhmnnnicmaa5
namespace Go.Proofs.Ytikgdhmnnnicmaa
open Go.RowKit Go.Shelf Go
theorem decF_len (data : List (List UInt8)) : (decF data).length ≤ (data.map fun b => b.length + 1).sum := by
  induction data with
  | nil => simp [decF]
  | cons b data ih =>
    simp only [decF, List.flatMap_cons, List.length_append, List.map_cons, List.sum_cons, decB_length] at ih ⊢
    omega
theorem len_sum (data : List (List UInt8)) : data.length ≤ (data.map fun b => b.length + 1).sum := by
  induction data with
  | nil => simp
  | cons b data ih => simp only [List.length_cons, List.map_cons, List.sum_cons]; omega
theorem el_sum {data : List (List UInt8)} : ∀ b ∈ data, b.length ≤ (data.map fun b => b.length + 1).sum := by
  induction data with
  | nil => simp
  | cons c data ih =>
    intro b hb
    simp only [List.map_cons, List.sum_cons]
    rcases List.mem_cons.1 hb with rfl | hb
    · omega
    · have := ih b hb; omega
/-- The payloads' lengths, up to the i-th. -/
def sumL (data : List (List UInt8)) (i : Nat) : Nat := ((data.take i).map (·.length)).sum
theorem sumL_next {data : List (List UInt8)} {i : Nat} (hi : i < data.length) : sumL data (i + 1) = sumL data i + data[i].length := by
  unfold sumL
  rw [take_snoc hi, List.map_append, List.sum_append]
  simp
theorem sumL_le (data : List (List UInt8)) (i : Nat) : sumL data i ≤ (data.map fun b => b.length + 1).sum := by
  unfold sumL
  induction data generalizing i with
  | nil => simp
  | cons b data ih =>
    cases i with
    | zero => simp
    | succ i =>
      have := ih i
      simp only [List.take_succ_cons, List.map_cons, List.sum_cons]
      omega
theorem xor_u8 (a b : Int) : ∃ y : UInt8, bits .xor .u8 a b = (y.toNat : Int) := by
  have h : 0 ≤ bits .xor .u8 a b ∧ bits .xor .u8 a b < 256 := by
    show 0 ≤ IntKind.u8.wrap _ ∧ IntKind.u8.wrap _ < 256
    generalize ((BitVec.ofInt _ a ^^^ BitVec.ofInt _ b).toNat : Int) = z
    simp [IntKind.wrap, IntKind.signed, IntKind.bits]
    omega
  generalize bits .xor .u8 a b = z at *
  refine ⟨UInt8.ofNat z.toNat, ?_⟩
  rw [UInt8.toNat_ofNat']
  omega
theorem LentL.move {w w1 : World} {lo : Nat} {v : Value} {bss : List (List UInt8)} (h : LentL w lo v bss) (hm : ∀ q, lo ≤ q → q < w.heap.size → w1.heap[q]? = w.heap[q]?) : LentL w1 lo v bss := by
  obtain ⟨g, cap, vs, rfl, hL⟩ := h
  exact ⟨g, cap, vs, rfl, hL.move hm⟩
theorem LentL.sl {w : World} {lo : Nat} {v : Value} {bss : List (List UInt8)} (h : LentL w lo v bss) : Sl (kslice kbyte) w (lo ≤ ·) v bss := by
  obtain ⟨g, cap, vs, rfl, hL⟩ := h
  have hs := hL.sl
  have e : (lentPs bss).map (·.1) = bss ++ [zB] := by
    unfold lentPs
    rw [List.map_append, List.map_map]
    have e2 : bss.map ((fun x : List UInt8 × List UInt8 => x.1) ∘ fun b => (b, mk2)) = bss := by
      conv => rhs; rw [← List.map_id bss]
      rfl
    rw [e2]
    rfl
  rw [e] at hs
  exact hs.front
theorem LentL.set {w : World} {lo g n cap : Nat} {b0 : List UInt8} {rest : List (List UInt8)} (h : LentL w lo (.slice (some ⟨g, 0, none⟩) n cap) (b0 :: rest)) :
    ∃ g0 c0, w.cell? ⟨g, 0, none⟩ = some (.slice (some ⟨g0, 0, none⟩) b0.length c0) ∧ lo ≤ g0 ∧ LRow w lo (.slice (some ⟨g0, 0, none⟩) b0.length c0) b0 mk2 ∧
      ∀ k (y : UInt8), k < b0.length → LentL (w.setCell ⟨g0, k, none⟩ (.int .u8 y.toNat)) lo (.slice (some ⟨g, 0, none⟩) n cap) (b0.set k y :: rest) := by
  obtain ⟨g', cap', vs, e, hL⟩ := h
  cases e
  have hlen := hL.len
  have hpl : (lentPs (b0 :: rest)).length = rest.length + 2 := by simp [lentPs]
  have hu : vs[0]? = some (vs[0]'(by omega)) := List.getElem?_eq_getElem (by omega)
  have hr := hL.row _ _ _ hu (lentPs_at (bss := b0 :: rest) (i := 0) (by simp))
  simp only [List.getElem_cons_zero] at hr
  obtain ⟨g0, c0, e, ho⟩ := id hr
  have hc := hL.cell hu
  rw [e] at hc hr
  have hne := hL.ne 0 _ g0 hu (by rw [e]; rfl)
  refine ⟨g0, c0, hc, (ho.lt g0 rfl).1, hr, fun k y hk => ⟨g, cap, vs, by simp, ?_⟩⟩
  have hset : ∀ q, q ≠ g0 → (w.setCell ⟨g0, k, none⟩ (.int .u8 y.toNat)).heap[q]? = w.heap[q]? := fun q hq => Below.heap_setCell _ _ _ _ hq
  have hps : lentPs (b0.set k y :: rest) = (b0.set k y, mk2) :: (lentPs (b0 :: rest)).tail := by simp [lentPs]
  have hps0 : lentPs (b0 :: rest) = (b0, mk2) :: (lentPs (b0 :: rest)).tail := by simp [lentPs]
  have hl2 : (lentPs (b0.set k y :: rest)).length = (lentPs (b0 :: rest)).length := by simp [lentPs]
  refine ⟨by rw [hl2]; exact ownsRow_move hL.own fun q hq => hset q fun e2 => by subst e2; exact hne hq, fun i u p hui hp => ?_, hL.ne, hL.apart⟩
  cases i with
  | zero =>
    rw [hps] at hp
    simp only [List.getElem?_cons_zero, Option.some.injEq] at hp
    subst hp
    rw [hu] at hui
    cases hui
    rw [e]
    exact hr.set hk y
  | succ i =>
    rw [hps, List.getElem?_cons_succ] at hp
    have hp2 : (lentPs (b0 :: rest))[i + 1]? = some p := by rw [hps0, List.getElem?_cons_succ]; exact hp
    exact (hL.row _ _ _ hui hp2).move fun q hq => hset q fun e2 => by
      subst e2
      have := hL.apart 0 (i + 1) _ _ q hu hui (by rw [e]; rfl) hq
      omega
theorem LRow.unfrozen {w : World} {lo g n cap : Nat} {bs marks : List UInt8} (h : LRow w lo (.slice (some ⟨g, 0, none⟩) n cap) bs marks) (k : Nat) : w.frozen? ⟨g, k, none⟩ = false := by
  obtain ⟨g', e, _, c, hc⟩ := h.at
  cases e
  simp [World.frozen?, hc]
theorem mod_at (U : Int) (n : Nat) (h0 : 0 < n) (hn : n ≤ 1099511627776) : ∃ k : Nat, (wrap64 (U.tmod n + n)).tmod n = (k : Int) ∧ k < n := by
  have h1 : U.tmod n < n := Int.tmod_lt_of_pos _ (by omega)
  have h2 : -(n : Int) < U.tmod n := Int.lt_tmod_of_pos U (by omega)
  have h3 : wrap64 (U.tmod n + n) = U.tmod n + n := Go.IntWalk.wrap64_in _ (by omega)
  have h4 : 0 ≤ (U.tmod n + n).tmod n := Int.tmod_nonneg _ (by omega)
  have h5 : (U.tmod n + n).tmod n < n := Int.tmod_lt_of_pos _ (by omega)
  refine ⟨((U.tmod n + n).tmod n).toNat, ?_, ?_⟩
  · rw [h3]; omega
  · omega
theorem LRow.below {w w1 : World} {lo : Nat} {u : Value} {bs marks : List UInt8} (h : LRow w lo u bs marks) (hb : Below w.heap.size w w1) : LRow w1 lo u bs marks := by
  obtain ⟨g, e, _, c, hc⟩ := h.at
  exact h.move fun q e2 => by rw [e] at e2; cases e2; exact hb.block g (blk_lt hc)
theorem LentL.below {w w1 : World} {lo : Nat} {v : Value} {bss : List (List UInt8)} (h : LentL w lo v bss) (hb : Below w.heap.size w w1) : LentL w1 lo v bss := h.move fun q _ hq => hb.block q hq
def resL (gen n : Int) (head : List UInt8) (data : List (List UInt8)) : List Node := if decOk gen n head data then decF data else []
def resE (gen n : Int) (head : List UInt8) (data : List (List UInt8)) : Int := if decOk gen n head data then 0 else 90
theorem dec_res {w w' : World} {gen n : Int} {head : List UInt8} {data : List (List UInt8)} {e : Ending} (h : DecPost w gen n head data e w') :
    ∃ A m c, e = .returned (.tuple #[.slice A m c, .int .i64 (resE gen n head data)]) ∧ Sl knode w' (fun _ => True) (.slice A m c) (resL gen n head data) ∧ Below w.heap.size w w' := by
  obtain ⟨h1, h2, h3⟩ := h
  unfold resE resL
  cases hE : decOk gen n head data with
  | true =>
    obtain ⟨v, rfl, ho⟩ := h1 hE
    have hs := (own_nodes ho).sl.mono (ok' := fun _ => True) fun _ _ => trivial
    obtain ⟨A, m, c, rfl⟩ := own_slice ho
    exact ⟨A, m, c, rfl, hs, h3⟩
  | false => exact ⟨none, 0, 0, h2 hE, Sl.nil _ _ _, h3⟩
set_option maxHeartbeats 16000000 in
set_option maxRecDepth 100000 in
theorem NestDecodes_any {w : World} {hv dv : Value} {gen n at_ x : Int} {head : List UInt8} {data : List (List UInt8)} (hh : Sl kbyte w (fun _ => True) hv head) (hd : Sl (kslice kbyte) w (fun _ => True) dv data) (_wx : (Lit.int .u8 x).wf = true) (hlh : head.length ≤ 1048576) (hld : (data.map fun b => b.length + 1).sum ≤ 1048576) :
    Calls Try.prog 8 #[.int .i64 gen, .int .i64 n, hv, dv, .int .i64 at_, .int .u8 x] w (LawPost w) := by
  obtain ⟨Ah, ch, rfl, hch, hmh⟩ := hh.slice
  obtain ⟨Ad, cd, rfl, hcd, hmd⟩ := hd.slice
  have HH := Aside.mk hh
  have HD := Aside.mk hd
  have HLD := Aside.mk hld
  have hdl : data.length ≤ 1048576 := by have := len_sum data; omega
  have HEl : Aside (∀ b ∈ data, b.length ≤ 1048576) := ⟨fun b hb => by have := el_sum b hb; omega⟩
  clear hh hd hld
  go_enter Try.func8, Try.ntmps8
  go_wp2_with fail
  refine (first_any w).mono ?_
  rintro e w1 ⟨rfl, B1⟩
  have HB1 := Aside.mk B1
  clear B1
  have HS0 : Aside ((head.length : Nat) = head.length + sumL data 0) := ⟨rfl⟩
  go_wp2
  go_loopg [14, 15] data.length (fun kq v14 v15 wr => ∃ (s i : Nat), Aside (s = head.length + sumL data i) ∧ Aside (i + kq = data.length) ∧ v14 = .int .i64 s ∧ v15 = .int .i64 i ∧ Aside (Below w.heap.size w wr))
  case atStart => exact ⟨head.length, 0, HS0, ⟨by omega⟩, rfl, rfl, HB1⟩
  case round =>
    clear HB1 HS0
    obtain ⟨s, i, HS, HI, rfl, rfl, HB⟩ := hrel
    have hsb : s ≤ 2097152 := by have := HS.out; have := sumL_le data i; have := HLD.out; omega
    by_cases hi : i < data.length
    · obtain ⟨b, o, bv, e, k0, s1⟩ := (HD.out.below HB.out).row i hi
      cases e
      have HM : Aside (data.length - (i + 1) < gk) := ⟨by have := HI.out; omega⟩
      have HT := Aside.mk (sumL_next hi)
      have hbi : data[i].length ≤ 1048576 := HEl.out _ (List.getElem_mem hi)
      generalize data[i] = bs at *
      obtain ⟨A2, c2, rfl, hc2, hm2⟩ := s1.slice
      clear s1
      go_wp2
      go_roundg (data.length - (i + 1))
      case measure => exact HM.out
      case rel => exact ⟨s + bs.length, i + 1, ⟨by have := HS.out; have := HT.out; omega⟩, ⟨by have := HI.out; have := HM.out; omega⟩, by go_num, by go_num, HB⟩
    · replace hi : data.length ≤ i := by omega
      by_cases hl : data.length ≤ 16384
      · have d1 : decide (16384 < (data.length : Int)) = false := by simp; omega
        by_cases hs : s ≤ 1048576
        · have d2 : decide (1048576 < (s : Int)) = false := by simp; omega
          have hc1 := Lent_any (HH.out.below HB.out) (by omega)
          clear hl hs HS HI
          go_wp2_with fail
          refine hc1.mono ?_
          clear hc1
          rintro e w2 ⟨v2, rfl, hL2, B2⟩
          have HB2 := Aside.mk (bthen HB.out HB.out.size B2)
          have HL2 := Aside.mk (hL2.low HB.out.size)
          obtain ⟨gh, c2, rfl⟩ : ∃ g c, v2 = .slice (some ⟨g, 0, none⟩) head.length c := by obtain ⟨g, c, e, _⟩ := hL2; exact ⟨g, c, e⟩
          have HGh : Aside (gh < w2.heap.size ∧ w.heap.size ≤ gh) := ⟨by
            obtain ⟨g', e, h1, c, hc⟩ := hL2.at
            cases e
            exact ⟨blk_lt hc, Nat.le_trans HB.out.size h1⟩⟩
          have hc2' := LentLists_any (HD.out.below HB2.out) (by omega) (fun b hb => by have := HEl.out b hb; omega)
          clear hL2 B2 HB
          go_wp2_with fail
          refine hc2'.mono ?_
          clear hc2'
          rintro e w3 ⟨v3, rfl, hL3, B3⟩
          have HB3 := Aside.mk (bthen HB2.out HB2.out.size B3)
          have HL3h := Aside.mk (HL2.out.move fun q e => B3.block q (by cases e; exact HGh.out.1))
          obtain ⟨gp, cp, rfl⟩ : ∃ g c, v3 = .slice (some ⟨g, 0, none⟩) data.length c := by obtain ⟨g, c, _, e, _⟩ := hL3; exact ⟨g, c, e⟩
          obtain ⟨lo2, hlo2⟩ : ∃ lo2, lo2 = w2.heap.size := ⟨_, rfl⟩
          rw [← hlo2] at hL3 HGh
          have HLo : Aside (w.heap.size ≤ lo2 ∧ lo2 ≤ w3.heap.size) := ⟨by rw [hlo2]; exact ⟨HB2.out.size, B3.size⟩⟩
          have HL3 := Aside.mk hL3
          clear hL3 B3 HB2 HL2 hlo2
          go_wp2
          go_loopg [18] 2 (fun kq v18 wr2 => ∃ (r : Nat) (hs : List UInt8) (ps : List (List UInt8)), Aside (r + kq = 2) ∧ v18 = .int .i64 r ∧ Aside (Below w.heap.size w wr2 ∧ lo2 ≤ wr2.heap.size) ∧ Aside (LRow wr2 w.heap.size (.slice (some ⟨gh, 0, none⟩) head.length c2) hs mk2) ∧ Aside (LentL wr2 lo2 (.slice (some ⟨gp, 0, none⟩) data.length cp) ps) ∧ Aside ((ps.map fun b => b.length + 1).sum ≤ 1048576))
          case atStart => exact ⟨0, head, data, ⟨rfl⟩, rfl, ⟨HB3.out, HLo.out.2⟩, HL3h, HL3, HLD⟩
          case round =>
            clear HB3 HL3h HL3 HD HH HEl HLD
            obtain ⟨r, hs, ps, HR, rfl, HB, HLh, HLp, HSum⟩ := hrel
            have hr2 : r ≤ 2 := by have := HR.out; omega
            by_cases hr : r < 2
            · have HM : Aside (2 - (r + 1) < gk) := ⟨by have := HR.out; omega⟩
              have hnh : hs.length = head.length := HLh.out.cells.1.symm
              have hnp : ps.length = data.length := by
                obtain ⟨_, _, _, e, _⟩ := HLp.out
                simp only [Value.slice.injEq] at e
                exact e.2.1.symm
              have hps24 : (decF ps).length ≤ 16777216 := by have := decF_len ps; have := HSum.out; omega
              have hpl : ps.length ≤ 16777216 := by have := len_sum ps; have := HSum.out; omega
              have hhl : hs.length ≤ 1099511627776 := by omega
              have HPe : Aside (∀ b ∈ ps, b.length ≤ 1099511627776) := ⟨fun b hb => by have := el_sum b hb; have := HSum.out; omega⟩
              have HPl := Aside.mk hps24
              have hc := Bytes_any HLh.out.sl hhl
              have HNH := Aside.mk hnh
              have HNP := Aside.mk hnp
              clear hps24 HLo hnh hnp
              go_wp2_with fail
              refine hc.mono ?_
              clear hc
              rintro e w4 ⟨va, rfl, hoa, B4⟩
              have HB4 : Aside (Below w.heap.size w w4 ∧ lo2 ≤ w4.heap.size) := ⟨bthen HB.out.1 HB.out.1.size B4, Nat.le_trans HB.out.2 B4.size⟩
              have HLh4 := Aside.mk (HLh.out.below B4)
              have HLp4 := Aside.mk (HLp.out.below B4)
              have HOa4 := Aside.mk ((own_u8s hoa).sl.mono (ok' := fun _ => True) fun _ _ => trivial)
              obtain ⟨Aa, ma, ca, rfl⟩ := own_slice hoa
              have hc := ByteLists_any HLp4.out.sl hpl HPe.out
              clear hoa B4 HB HLh HLp
              go_wp2_with fail
              refine hc.mono ?_
              clear hc
              rintro e w5 ⟨vb, vsb, rfl, hbl, B5⟩
              have HB5 : Aside (Below w.heap.size w w5 ∧ lo2 ≤ w5.heap.size) := ⟨bthen HB4.out.1 HB4.out.1.size B5, Nat.le_trans HB4.out.2 B5.size⟩
              have HLh5 := Aside.mk (HLh4.out.below B5)
              have HLp5 := Aside.mk (HLp4.out.below B5)
              have HOa5 := Aside.mk (HOa4.out.below B5)
              have HOb5 := Aside.mk (hbl.sl.mono (ok' := fun _ => True) fun _ _ => trivial)
              obtain ⟨Ab, mb, cb, rfl⟩ := own_slice hbl.own
              have hc := pdecode_any gen n HLh5.out.sl HLp5.out.sl HPl.out
              clear hbl B5 HB4 HLh4 HLp4 HOa4
              go_wp2_with fail
              refine hc.mono ?_
              clear hc
              intro e w6 hd6
              obtain ⟨A6, m6, c6, rfl, s6, B6⟩ := dec_res hd6
              have HB6 : Aside (Below w.heap.size w w6 ∧ lo2 ≤ w6.heap.size) := ⟨bthen HB5.out.1 HB5.out.1.size B6, Nat.le_trans HB5.out.2 B6.size⟩
              have HLh6 := Aside.mk (HLh5.out.below B6)
              have HLp6 := Aside.mk (HLp5.out.below B6)
              have HOa6 := Aside.mk (HOa5.out.below B6)
              have HOb6 := Aside.mk (HOb5.out.below B6)
              have HV6 := Aside.mk s6
              have hc := refDecode_any gen n HOa6.out HOb6.out HPl.out
              clear hd6 s6 B6 HB5 HLh5 HLp5 HOa5 HOb5
              go_wp2_with fail
              refine hc.mono ?_
              clear hc
              intro e w7 hd7
              obtain ⟨A7, m7, c7, rfl, s7, B7⟩ := dec_res hd7
              have HB7 : Aside (Below w.heap.size w w7 ∧ lo2 ≤ w7.heap.size) := ⟨bthen HB6.out.1 HB6.out.1.size B7, Nat.le_trans HB6.out.2 B7.size⟩
              have HLh7 := Aside.mk (HLh6.out.below B7)
              have HLp7 := Aside.mk (HLp6.out.below B7)
              have HOb7 := Aside.mk (HOb6.out.below B7)
              have HV67 := Aside.mk (HV6.out.below B7)
              have HV7 := Aside.mk s7
              have hc := Stays_any HLh7.out (HOa6.out.below B7) hhl
              clear hd7 s7 B7 HB6 HLh6 HLp6 HOa6 HOb6 HV6
              generalize resE gen n hs ps = z at *
              generalize resL gen n hs ps = nl at *
              go_wp2_with fail
              refine hc.mono ?_
              clear hc
              rintro e w8 ⟨rfl, rfl⟩
              have hc := StayLists_any HLp7.out HOb7.out hpl HPe.out
              clear HOb7
              go_wp2_with fail
              refine hc.mono ?_
              clear hc
              rintro e w8 ⟨rfl, B8⟩
              have HB8 : Aside (Below w.heap.size w w8 ∧ lo2 ≤ w8.heap.size) := ⟨bthen HB7.out.1 HB7.out.1.size B8, Nat.le_trans HB7.out.2 B8.size⟩
              have HLh8 := Aside.mk (HLh7.out.below B8)
              have HLp8 := Aside.mk (HLp7.out.below B8)
              have hc := SameNodes_any (HV67.out.below B8) (HV7.out.below B8)
              rw [eqB_yes rfl] at hc
              clear B8 HB7 HLh7 HLp7 HV67 HV7
              go_wp2_with fail
              refine hc.mono ?_
              clear hc
              rintro e w9 ⟨rfl, S9⟩
              have HB9 : Aside (Below w.heap.size w w9 ∧ lo2 ≤ w9.heap.size) := ⟨bthen HB8.out.1 HB8.out.1.size (S9.below _), Nat.le_trans HB8.out.2 (S9.below w8.heap.size).size⟩
              have HLh9 := Aside.mk (HLh8.out.below (S9.below _))
              have HLp9 := Aside.mk (HLp8.out.below (S9.below _))
              clear S9 HB8 HLh8 HLp8
              go_wp2_with fail
              refine (num_any z w9).mono ?_
              rintro e w10 ⟨rfl, rfl⟩
              cases ps with
              | nil =>
                have dp : decide ((0 : Int) < (data.length : Int)) = false := decide_eq_false (by have := HNP.out; simp at this; omega)
                have dpn : decide (0 < data.length) = false := decide_eq_false (by have := HNP.out; simp at this; omega)
                by_cases hh0 : 0 < head.length
                · have dh : decide ((0 : Int) < (head.length : Int)) = true := decide_eq_true (by omega)
                  have dhn : decide (0 < head.length) = true := decide_eq_true (by omega)
                  obtain ⟨k, hk, hkl⟩ := mod_at at_ head.length hh0 (by omega)
                  have hkh : k < hs.length := by have := HNH.out; omega
                  obtain ⟨-, -, -, hcell⟩ := HLh9.out.cells
                  have k1 : w9.cell? ⟨gh, k, none⟩ = some (.int .u8 hs[k].toNat) := by
                    rw [hcell k (by rw [List.length_append]; omega), List.getElem_append_left hkh]
                  have kf := HLh9.out.unfrozen k
                  obtain ⟨y, hy⟩ := xor_u8 hs[k].toNat x
                  have HNh : Aside (LRow (w9.setCell ⟨gh, k, none⟩ (.int .u8 (bits .xor .u8 hs[k].toNat x))) w.heap.size (.slice (some ⟨gh, 0, none⟩) head.length c2) (hs.set k y) mk2) := ⟨by rw [hy]; exact HLh9.out.set hkh y⟩
                  have HNp : Aside (LentL (w9.setCell ⟨gh, k, none⟩ (.int .u8 (bits .xor .u8 hs[k].toNat x))) lo2 (.slice (some ⟨gp, 0, none⟩) data.length cp) []) := ⟨HLp9.out.move fun q hq _ => Below.heap_setCell _ _ _ _ (by have := HGh.out.1; simp only; omega)⟩
                  have HNb : Aside (Below w.heap.size w (w9.setCell ⟨gh, k, none⟩ (.int .u8 (bits .xor .u8 hs[k].toNat x))) ∧ lo2 ≤ (w9.setCell ⟨gh, k, none⟩ (.int .u8 (bits .xor .u8 hs[k].toNat x))).heap.size) := ⟨HB9.out.1.setCell HGh.out.2 _, by simpa using HB9.out.2⟩
                  generalize hs[k].toNat = old at *
                  clear hcell HLh9 HLp9 HB9 hy hkh
                  go_wp2
                  go_roundg (2 - (r + 1))
                  case measure => exact HM.out
                  case rel => exact ⟨r + 1, hs.set k y, [], ⟨by have := HR.out; have := HM.out; omega⟩, by go_num, HNb, HNh, HNp, HSum⟩
                · have dh : decide ((0 : Int) < (head.length : Int)) = false := decide_eq_false (by omega)
                  have dhn : decide (0 < head.length) = false := decide_eq_false (by omega)
                  go_wp2
                  go_roundg (2 - (r + 1))
                  case measure => exact HM.out
                  case rel => exact ⟨r + 1, hs, [], ⟨by have := HR.out; have := HM.out; omega⟩, by go_num, HB9, HLh9, HLp9, HSum⟩
              | cons b0 rest =>
                have dp : decide ((0 : Int) < (data.length : Int)) = true := decide_eq_true (by have := HNP.out; simp at this; omega)
                have dpn : decide (0 < data.length) = true := decide_eq_true (by have := HNP.out; simp at this; omega)
                obtain ⟨g0, c0, k0, hg0, hr0, hset⟩ := HLp9.out.set
                have HR0 := Aside.mk hr0
                have HSet := Aside.mk hset
                have HG0 := Aside.mk hg0
                have hb0 : b0.length ≤ 1048576 := by have := HSum.out; simp only [List.map_cons, List.sum_cons] at this; omega
                have dp0 : (0 : Int) < (data.length : Int) := by have := HNP.out; simp at this; omega
                clear hr0 hset hg0
                by_cases hz0 : 0 < b0.length
                · have db : decide ((0 : Int) < (b0.length : Int)) = true := decide_eq_true (by omega)
                  have dbn : decide (0 < b0.length) = true := decide_eq_true (by omega)
                  obtain ⟨bb, hbb⟩ : ∃ bb, bb = (at_.tmod 2 == 0) := ⟨_, rfl⟩
                  have hbb2 : (at_.tmod 2 == 0) = bb := hbb.symm
                  clear hbb
                  cases bb with
                  | true =>
                    obtain ⟨k, hk, hkl⟩ := mod_at at_ b0.length hz0 (by omega)
                    obtain ⟨-, -, -, hcell⟩ := HR0.out.cells
                    have k1 : w9.cell? ⟨g0, k, none⟩ = some (.int .u8 b0[k].toNat) := by
                      rw [hcell k (by rw [List.length_append]; omega), List.getElem_append_left hkl]
                    have kf := HR0.out.unfrozen k
                    obtain ⟨y, hy⟩ := xor_u8 b0[k].toNat x
                    have HNp : Aside (∀ m, LentL ((w9.drewN m).setCell ⟨g0, k, none⟩ (.int .u8 (bits .xor .u8 b0[k].toNat x))) lo2 (.slice (some ⟨gp, 0, none⟩) data.length cp) (b0.set k y :: rest)) := ⟨fun m => by
                      rw [hy]
                      exact (HSet.out k y hkl).move fun q _ _ => rfl⟩
                    have HNh : Aside (∀ m, LRow ((w9.drewN m).setCell ⟨g0, k, none⟩ (.int .u8 (bits .xor .u8 b0[k].toNat x))) w.heap.size (.slice (some ⟨gh, 0, none⟩) head.length c2) hs mk2) := ⟨fun m => (HLh9.out.move (w1 := w9.drewN m) fun _ _ => rfl).move fun q e => Below.heap_setCell _ _ _ _ (by cases e; have := HGh.out.1; have := HG0.out; simp only; omega)⟩
                    have HNb : Aside (∀ m, Below w.heap.size w ((w9.drewN m).setCell ⟨g0, k, none⟩ (.int .u8 (bits .xor .u8 b0[k].toNat x))) ∧ lo2 ≤ ((w9.drewN m).setCell ⟨g0, k, none⟩ (.int .u8 (bits .xor .u8 b0[k].toNat x))).heap.size) := ⟨fun m => ⟨(bdrew HB9.out.1 m).setCell (by have := HGh.out; have := HG0.out; simp only; omega) _, by simpa using HB9.out.2⟩⟩
                    have HSum2 : Aside (((b0.set k y :: rest).map fun b => b.length + 1).sum ≤ 1048576) := ⟨by have := HSum.out; simpa using this⟩
                    have hk2 : (k : Int) < (b0.length : Int) := by omega
                    have dp0n : 0 < data.length := by omega
                    have dp1 : ¬ (data.length = 0) := by omega
                    have db1 : ¬ ((b0.length : Int) = 0) := by omega
                    generalize b0[k].toNat = old at *
                    clear hcell HLh9 HLp9 HB9 hy HSet HR0
                    go_wp2_with fail
                    refine wp_region_quiet_tail (v := .slice (some ⟨gp, 0, none⟩) data.length cp) 23 (by kernel_rfl) (by kernel_rfl) (fun _ _ _ h => h) (.inl ⟨rfl, fun _ => rfl⟩) ?_
                    simp only [List.take_succ_cons, List.take_zero, List.drop_succ_cons, List.drop_zero]
                    simp only [Act.put, List.setIfInBounds_toArray, List.set_cons_zero, List.set_cons_succ]
                    repeat (go_big_quiet_step (fail))
                    refine wpQuiet_nil ?_
                    intro _ hw'
                    obtain ⟨nq, rfl⟩ := hw'
                    go_wp2
                    go_roundg (2 - (r + 1))
                    case measure => exact HM.out
                    case rel => exact ⟨r + 1, hs, _, ⟨by have := HR.out; have := HM.out; omega⟩, by go_num, ⟨HNb.out nq⟩, ⟨HNh.out nq⟩, ⟨HNp.out nq⟩, HSum2⟩
                  | false =>
                    by_cases hh0 : 0 < head.length
                    · have dh : decide ((0 : Int) < (head.length : Int)) = true := decide_eq_true (by omega)
                      have dhn : decide (0 < head.length) = true := decide_eq_true (by omega)
                      obtain ⟨k, hk, hkl⟩ := mod_at at_ head.length hh0 (by omega)
                      have hkh : k < hs.length := by have := HNH.out; omega
                      obtain ⟨-, -, -, hcell⟩ := HLh9.out.cells
                      have k1 : w9.cell? ⟨gh, k, none⟩ = some (.int .u8 hs[k].toNat) := by
                        rw [hcell k (by rw [List.length_append]; omega), List.getElem_append_left hkh]
                      have kf := HLh9.out.unfrozen k
                      obtain ⟨y, hy⟩ := xor_u8 hs[k].toNat x
                      have HNh : Aside (LRow (w9.setCell ⟨gh, k, none⟩ (.int .u8 (bits .xor .u8 hs[k].toNat x))) w.heap.size (.slice (some ⟨gh, 0, none⟩) head.length c2) (hs.set k y) mk2) := ⟨by rw [hy]; exact HLh9.out.set hkh y⟩
                      have HNp : Aside (LentL (w9.setCell ⟨gh, k, none⟩ (.int .u8 (bits .xor .u8 hs[k].toNat x))) lo2 (.slice (some ⟨gp, 0, none⟩) data.length cp) (b0 :: rest)) := ⟨HLp9.out.move fun q hq _ => Below.heap_setCell _ _ _ _ (by have := HGh.out.1; simp only; omega)⟩
                      have HNb : Aside (Below w.heap.size w (w9.setCell ⟨gh, k, none⟩ (.int .u8 (bits .xor .u8 hs[k].toNat x))) ∧ lo2 ≤ (w9.setCell ⟨gh, k, none⟩ (.int .u8 (bits .xor .u8 hs[k].toNat x))).heap.size) := ⟨HB9.out.1.setCell HGh.out.2 _, by simpa using HB9.out.2⟩
                      generalize hs[k].toNat = old at *
                      clear hcell HLh9 HLp9 HB9 hy hkh
                      go_wp2
                      go_roundg (2 - (r + 1))
                      case measure => exact HM.out
                      case rel => exact ⟨r + 1, hs.set k y, (b0 :: rest), ⟨by have := HR.out; have := HM.out; omega⟩, by go_num, HNb, HNh, HNp, HSum⟩
                    · have dh : decide ((0 : Int) < (head.length : Int)) = false := decide_eq_false (by omega)
                      have dhn : decide (0 < head.length) = false := decide_eq_false (by omega)
                      go_wp2
                      go_roundg (2 - (r + 1))
                      case measure => exact HM.out
                      case rel => exact ⟨r + 1, hs, (b0 :: rest), ⟨by have := HR.out; have := HM.out; omega⟩, by go_num, HB9, HLh9, HLp9, HSum⟩
                · have db : decide ((0 : Int) < (b0.length : Int)) = false := decide_eq_false (by omega)
                  have dbn : decide (0 < b0.length) = false := decide_eq_false (by omega)
                  by_cases hh0 : 0 < head.length
                  · have dh : decide ((0 : Int) < (head.length : Int)) = true := decide_eq_true (by omega)
                    have dhn : decide (0 < head.length) = true := decide_eq_true (by omega)
                    obtain ⟨k, hk, hkl⟩ := mod_at at_ head.length hh0 (by omega)
                    have hkh : k < hs.length := by have := HNH.out; omega
                    obtain ⟨-, -, -, hcell⟩ := HLh9.out.cells
                    have k1 : w9.cell? ⟨gh, k, none⟩ = some (.int .u8 hs[k].toNat) := by
                      rw [hcell k (by rw [List.length_append]; omega), List.getElem_append_left hkh]
                    have kf := HLh9.out.unfrozen k
                    obtain ⟨y, hy⟩ := xor_u8 hs[k].toNat x
                    have HNh : Aside (LRow (w9.setCell ⟨gh, k, none⟩ (.int .u8 (bits .xor .u8 hs[k].toNat x))) w.heap.size (.slice (some ⟨gh, 0, none⟩) head.length c2) (hs.set k y) mk2) := ⟨by rw [hy]; exact HLh9.out.set hkh y⟩
                    have HNp : Aside (LentL (w9.setCell ⟨gh, k, none⟩ (.int .u8 (bits .xor .u8 hs[k].toNat x))) lo2 (.slice (some ⟨gp, 0, none⟩) data.length cp) (b0 :: rest)) := ⟨HLp9.out.move fun q hq _ => Below.heap_setCell _ _ _ _ (by have := HGh.out.1; simp only; omega)⟩
                    have HNb : Aside (Below w.heap.size w (w9.setCell ⟨gh, k, none⟩ (.int .u8 (bits .xor .u8 hs[k].toNat x))) ∧ lo2 ≤ (w9.setCell ⟨gh, k, none⟩ (.int .u8 (bits .xor .u8 hs[k].toNat x))).heap.size) := ⟨HB9.out.1.setCell HGh.out.2 _, by simpa using HB9.out.2⟩
                    generalize hs[k].toNat = old at *
                    clear hcell HLh9 HLp9 HB9 hy hkh
                    go_wp2
                    go_roundg (2 - (r + 1))
                    case measure => exact HM.out
                    case rel => exact ⟨r + 1, hs.set k y, (b0 :: rest), ⟨by have := HR.out; have := HM.out; omega⟩, by go_num, HNb, HNh, HNp, HSum⟩
                  · have dh : decide ((0 : Int) < (head.length : Int)) = false := decide_eq_false (by omega)
                    have dhn : decide (0 < head.length) = false := decide_eq_false (by omega)
                    go_wp2
                    go_roundg (2 - (r + 1))
                    case measure => exact HM.out
                    case rel => exact ⟨r + 1, hs, (b0 :: rest), ⟨by have := HR.out; have := HM.out; omega⟩, by go_num, HB9, HLh9, HLp9, HSum⟩
            · replace hr : 2 ≤ r := by omega
              go_wp2
              go_ret
              exact ⟨rfl, HB.out.1⟩
        · have d2 : decide (1048576 < (s : Int)) = true := by simp; omega
          clear HS
          go_wp2_with fail
          go_ret
          exact ⟨rfl, HB.out⟩
      · have d1 : decide (16384 < (data.length : Int)) = true := by simp; omega
        clear HS
        go_wp2_with fail
        go_ret
        exact ⟨rfl, HB.out⟩
end Go.Proofs.Ytikgdhmnnnicmaa
