/- The law's decodes: the program's Decode says what the document's says, and what was handed in stays. No condition. -/
import Derived.Test.YtjncnppbaldmiaaGreatDoorDl
namespace Go.Proofs.YtjncnppbaldmiaaGreatDoor
open Go.RowKit Go.Shelf
theorem num_any {w : World} (x : Int) : Calls Tryz.prog 13 #[.int .i64 x] w fun e w' => e = .returned (.int .i64 x) ∧ w' = w := by
  go_enter Tryz.func13, Tryz.ntmps13
  go_wp2
  go_ret
  exact ⟨rfl, rfl⟩
def decL (r : Option (List Int)) : List Int := r.getD []
def decE (r : Option (List Int)) : Int := if r.isSome then 0 else 90
theorem DecO.ans {w w' : World} {r : Option (List Int)} {e : Ending} (h : DecO w r e w') : ∃ v, e = .returned (.tuple #[v, .int .i64 (decE r)]) ∧ Sl kint w' (w.heap.size ≤ ·) v (decL r) ∧ Below w.heap.size w w' := by
  obtain ⟨h1, h2, h3⟩ := h
  cases r with
  | none => exact ⟨_, h2 rfl, (own_ints (xs := []) (World.ownsRow_nil w' w.heap.size 3 1)).sl, h3⟩
  | some l =>
    obtain ⟨v, rfl, ho⟩ := h1 l rfl
    exact ⟨v, rfl, (own_ints ho).sl, h3⟩
theorem mem_sumL {b : List UInt8} : ∀ {data : List (List UInt8)}, b ∈ data → b.length ≤ sumL data
  | [], h => by simp at h
  | x :: l, h => by
    have ih := @mem_sumL b l
    simp only [sumL, List.map_cons, List.sum_cons] at ih ⊢
    rcases List.mem_cons.1 h with rfl | h
    · omega
    · have := ih h
      omega
set_option maxHeartbeats 8000000 in
set_option maxRecDepth 100000 in
theorem decodes_any {w : World} {ok : Nat → Prop} {hv dv : Value} {gen n : Int} {head : List UInt8} {data : List (List UInt8)} (hh : Sl kbyte w ok hv head) (hd : Sl (kslice kbyte) w ok dv data) (hs : sumL data ≤ 1073741824) (hn : n ≤ 16777215) (hhl : head.length ≤ 1099511627776) (hdl : data.length ≤ 16777215) :
    Calls Tryz.prog 16 #[.int .i64 gen, .int .i64 n, hv, dv] w fun e w' => e = .returned (.bool true) ∧ Below w.heap.size w w' := by
  obtain ⟨Ah, ch, rfl, hch, hmh⟩ := hh.slice
  obtain ⟨Ad, cd, rfl, hcd, hmd⟩ := hd.slice
  have HH := Aside.mk hh
  have HD := Aside.mk hd
  have HS := Aside.mk hs
  have HNn := Aside.mk hn
  have HRowL : Aside (∀ b ∈ data, b.length ≤ 1073741824) := ⟨fun b hb => Nat.le_trans (mem_sumL hb) hs⟩
  have hcall := Bytes_any hh hhl
  clear hh hd hs hn
  go_enter Tryz.func16, Tryz.ntmps16
  go_wp2_with fail
  refine hcall.mono ?_
  clear hcall
  rintro e w1 ⟨v1, rfl, ho, B1⟩
  have HO := Aside.mk ho
  have HB := Aside.mk B1
  obtain ⟨A1, m1, c1, rfl⟩ := own_slice ho
  clear ho B1
  go_wp2_with (at_builtin; go_must (refine app_one w.heap.size rfl _ _ 25 5 (.int .u8 0) 1 1 rfl Tryz.underlying25 Tryz.infoByte rfl (by decide) (by decide) (.slice A1 m1 c1) head.length _ [.int .u8 201] rfl rfl rfl (by simp [Value.oneCell']) HO.out HB.out.size (by omega) ?_; intro v2 w2 hown hg hat; obtain ⟨gh, caph, rfl, hc1, hc2⟩ := own_pos hown (by omega); have HB2 := Aside.mk (HB.out.grown hg HB.out.size fun q e => (HO.out.lt q e).1); have HLh : Aside (LRow w2 w.heap.size (.slice (some ⟨gh, 0, none⟩) head.length caph) head [201]) := ⟨gh, caph, rfl, by rw [List.length_append]; simpa [u8s] using hown⟩; clear hown hg hat))
  refine (ByteLists_any (HD.out.below HB2.out) (by omega) (fun b hb => Nat.le_trans (HRowL.out b hb) (by omega))).mono ?_
  rintro e w3 ⟨v3, vs3, rfl, hbl, B3⟩
  have hsz2 := HB2.out.size
  have hlh : ∀ q, (Value.slice (some ⟨gh, 0, none⟩) head.length caph).ownBlock = some q → q < w2.heap.size := fun q e => by
    obtain ⟨g, e2, _, c, hc⟩ := HLh.out.at
    rw [e] at e2; cases e2
    exact blk_lt hc
  have HLh3 : Aside (LRow w3 w.heap.size (.slice (some ⟨gh, 0, none⟩) head.length caph) head [201]) := ⟨HLh.out.move fun q e => B3.block q (hlh q e)⟩
  have HBL := Aside.mk (hbl.low hsz2)
  have HBn : Aside (∀ q, v3.ownBlock = some q → w2.heap.size ≤ q) := ⟨fun q e => (hbl.own.lt q e).1⟩
  have HLhq := Aside.mk hlh
  have HB3 := Aside.mk (bthen HB2.out HB2.out.size B3)
  have HSz3 : Aside (w2.heap.size ≤ w3.heap.size) := ⟨B3.size⟩
  obtain ⟨A3, m3, c3, rfl⟩ := own_slice hbl.own
  have hbl3 := HBL.out.below ((Below.refl w3.heap.size w3).alloc (Nat.le_refl _) (.cells #[.int .u8 202] 5))
  have HOl := Aside.mk hbl3.own
  have HBa := Aside.mk (HB3.out.alloc HB3.out.size (.cells #[.int .u8 202] 5))
  have HNw := Aside.mk (heap_alloc_new w3 (.cells #[.int .u8 202] 5))
  have HLh4 : Aside (LRow (w3.alloc (.cells #[.int .u8 202] 5)) w.heap.size (.slice (some ⟨gh, 0, none⟩) head.length caph) head [201]) := ⟨HLh3.out.move fun q e => Below.heap_alloc _ _ _ (by have := hlh q e; have := HSz3.out; omega)⟩
  have HBl3 := Aside.mk hbl3
  clear hbl B3 HLh HB HB2 HLh3 HO hlh hbl3 hsz2
  go_wp2_with (at_builtin; go_must (refine app_one w.heap.size rfl _ _ 26 25 (.slice none 0 0) 1 24 rfl Tryz.underlying26 Tryz.infoBytes rfl (by decide) (by decide) (.slice A3 m3 c3) data.length vs3 [.slice (some ⟨w3.heap.size, 0, none⟩) 1 1] rfl (by first | rfl | (simp [Act.eval])) rfl (by simp [Value.oneCell']) HOl.out HBa.out.size (by omega) ?_; intro v4 w4 hown hg hat; obtain ⟨gD, capD, rfl, hcD1, hcD2⟩ := own_pos hown (by omega); have HOw := Aside.mk hown; have HGr := Aside.mk hg; have HAt := Aside.mk hat; clear hown hg hat))
  have HB4 := Aside.mk (HBa.out.grown HGr.out HBa.out.size fun q e => (HOl.out.lt q e).1)
  have HLh5 : Aside (LRow w4 w.heap.size (.slice (some ⟨gh, 0, none⟩) head.length caph) head [201]) := ⟨HLh4.out.move fun q e => HGr.out.block q (by have := HLhq.out q e; have := HSz3.out; simp only [World.size_alloc]; omega) fun e3 => by have := HBn.out q e3.symm; have := HLhq.out q e; omega⟩
  have HDL : Aside (BL w4 w.heap.size (.slice (some ⟨gD, 0, none⟩) (data.length + 1) capD) (vs3 ++ [.slice (some ⟨w3.heap.size, 0, none⟩) 1 1]) (data ++ [[202]])) := ⟨by
    have hw : w.heap.size ≤ w3.heap.size := HB3.out.size
    have hlit : (w3.alloc (.cells #[.int .u8 202] 5)).ownsRow w.heap.size 5 1 (.slice (some ⟨w3.heap.size, 0, none⟩) 1 1) [(202 : UInt8)].length (u8s [202]) :=
      ⟨rfl, .inr ⟨w3.heap.size, 1, _, rfl, hw, HNw.out, by decide, by simp [maxLen], rfl, rfl⟩⟩
    refine HBl3.out.snoc hlit (fun q e e2 => ?_) HOw.out HGr.out ?_
    · have h1 : w3.heap.size = q := Option.some.inj e
      have h2 := (HBL.out.own.lt q e2).2
      omega
    · rcases HAt.out with e | e
      · exact .inl e
      · exact .inr ⟨_, e, by omega⟩⟩
  have hch5 := HLh5.out.cells
  obtain ⟨-, hcapl, hcapm, -⟩ := hch5
  rw [List.length_append, List.length_singleton] at hcapl
  clear HBa HLh4 HOl HNw HOw HGr HAt HBn HLhq HBl3 HBL HB3 HSz3
  have bd1 : Below w4.heap.size w4 w4.drew := bdrew1 (Below.refl _ _)
  have HLr : Aside (∀ W, Below w4.heap.size w4 W → LRow W w.heap.size (.slice (some ⟨gh, 0, none⟩) head.length caph) head [201]) := ⟨fun W hW => HLh5.out.move fun q e => by
    obtain ⟨g, e2, _, c, hc⟩ := HLh5.out.at
    rw [e] at e2; cases e2
    exact hW.block q (blk_lt hc)⟩
  have hfr : ∀ W, Below w4.heap.size w4 W → Sl (kslice kbyte) W (w.heap.size ≤ ·) (.slice (some ⟨gD, 0, none⟩) data.length capD) data := fun W hW => by
    have h := (HDL.out.below hW).sl
    have e1 : data.length + 1 = (data ++ [[202]]).length := by simp
    rw [e1] at h
    exact h.front
  have HFr := Aside.mk hfr
  have HI1 := Aside.mk (decode_any (gen := gen) (n := n) (((HLr.out _ bd1).sl).mono (ok' := fun q => w.heap.size ≤ q) fun q hq => hq.1) (hfr _ bd1) HS.out)
  have q0 : (0 : Int) ≤ (head.length : Int) := Int.natCast_nonneg _
  have q1 : (head.length : Int) ≤ (caph : Int) := by omega
  have q2 : (0 : Int) ≤ (data.length : Int) := Int.natCast_nonneg _
  have q3 : (data.length : Int) ≤ (capD : Int) := by omega
  have HBd1 := Aside.mk bd1
  clear hfr bd1 HLh5
  obtain ⟨E, hE⟩ : ∃ E, E = decE (decO gen n head data) := ⟨_, rfl⟩
  have HE := Aside.mk hE
  clear hE
  go_wp2_with fail
  go_cut [11, 12] (fun v11 v12 wx => ∃ A5 m5 c5, v11 = .slice A5 m5 c5 ∧ v12 = .int .i64 E ∧ Aside (Below w4.heap.size w4 wx) ∧ Aside (Sl kint wx (w4.heap.size ≤ ·) (.slice A5 m5 c5) (decL (decO gen n head data))))
  case first =>
    go_region_held3 (fun _ => True) (trivial) (first | (go_at_call 21; refine HI1.out.mono ?_; intro e w6 hdp; obtain ⟨v6, rfl, hs6, hb6⟩ := hdp.ans; rw [← HE.out]; obtain ⟨A5, c5, rfl, _⟩ := hs6.slice; have HS6 := Aside.mk hs6; have HB6 := Aside.mk (bthen HBd1.out HBd1.out.size hb6); clear hdp hs6 hb6))
    all_goals (go_wp2_with fail; go_meet; (case rel => exact ⟨A5, _, c5, rfl, rfl, HB6, HS6⟩))
  case rest =>
    obtain ⟨A5, m5, c5, rfl, rfl, HB5, HS5⟩ := hcut
    have HBc := Aside.mk (bthen HB4.out HB4.out.size HB5.out)
    have hcall := refDecode_any (gen := gen) (n := n) (HH.out.below HBc.out) (HD.out.below HBc.out) HS.out HNn.out
    clear HI1 HBd1
    go_wp2_with fail
    refine hcall.mono ?_
    clear hcall
    intro e w7 hdp
    obtain ⟨v7, rfl, hs7, hb7⟩ := hdp.ans
    rw [← HE.out]
    have hsi := SameInts_any (HS5.out.below hb7) hs7
    rw [eqB_yes rfl] at hsi
    have HB7 := Aside.mk (bthen HB5.out HB5.out.size hb7)
    obtain ⟨A7, c7, rfl, _⟩ := hs7.slice
    clear hdp hs7 hb7 HS5
    go_wp2_with fail
    refine hsi.mono ?_
    clear hsi
    rintro e w8 ⟨rfl, ⟨⟨q8, rfl⟩⟩⟩
    have HB8 := Aside.mk (bdrew HB7.out q8)
    generalize w7.drewN q8 = w9 at *
    have hee : (E == E) = true := by simp
    go_wp2_with fail
    refine (num_any _).mono ?_
    rintro e wa ⟨rfl, hwa⟩
    subst hwa
    have HBw := Aside.mk (bthen HB4.out HB4.out.size HB8.out)
    have HL8 := Aside.mk (HLr.out wa HB8.out)
    have HD8 := Aside.mk (HFr.out wa HB8.out)
    have HDb := Aside.mk (HDL.out.below HB8.out)
    have hcs1 := SameBytes_any HL8.out.sl (HH.out.below HBw.out)
    rw [eqB_yes rfl] at hcs1
    obtain ⟨_, _, _, hcl⟩ := HL8.out.cells
    have h201 := hcl head.length (by simp)
    simp only [List.getElem_concat_length] at h201
    have h201' : wa.cell? ⟨gh, head.length, none⟩ = some (.int .u8 201) := by rw [h201]; rfl
    clear hcl h201
    have hcs2 := SameByteLists_any HD8.out (HD.out.below HBw.out)
    rw [eqB_yes rfl] at hcs2
    have HC2 := Aside.mk hcs2
    have hlast : ∀ q, (wa.drewN q).cell? ⟨gD, data.length, none⟩ = some (.slice (some ⟨w3.heap.size, 0, none⟩) 1 1) := fun q => by
      have h := HDb.out.own.cells (g := gD) rfl data.length (.slice (some ⟨w3.heap.size, 0, none⟩) 1 1) (by
        have hl : vs3.length = data.length := by have := HDb.out.len; simpa using this
        rw [List.getElem?_append_right (by omega), hl]; simp)
      rw [addr_add] at h
      simpa using h
    have HLast := Aside.mk hlast
    have r1 : (head.length : Int) < (head.length : Int) + 1 := by omega
    have r2 : (data.length : Int) < (data.length : Int) + 1 := by omega
    clear hcs2 hlast HDb HDL HD8 HL8 HFr HLr
    go_wp2_with fail
    refine hcs1.mono ?_
    clear hcs1
    rintro e wb ⟨rfl, hwb⟩
    subst hwb
    go_wp2_with fail
    refine HC2.out.mono ?_
    clear HC2
    rintro e wb ⟨rfl, ⟨⟨qb, rfl⟩⟩⟩
    have hlast' := HLast.out qb
    have HBb := Aside.mk (bdrew HBw.out qb)
    clear HLast HBw h201'
    generalize wb.drewN qb = wz at *
    go_wp2_with fail
    go_ret
    exact ⟨rfl, HBb.out⟩
end Go.Proofs.YtjncnppbaldmiaaGreatDoor
