/- manifest.degrees walked. No condition. -/
import Derived.Test.YtgbladpoglhleaaGreatDoorDd
namespace Go.Proofs.YtgbladpoglhleaaGreatDoor
open Go.RowKit
def DegPost (lo : Nat) (w0 : World) (M : Nat) (gen n : Int) (cv sv : Value) (cs : List Int) (ss : List Info) (ds : List Int) (data : List (List UInt8)) (e : Ending) (w' : World) : Prop :=
  (∀ l, degF data = some l → e = .returned (.bool true) ∧ ∃ dv', MI lo w0 w' M gen n cv sv dv' cs ss (ds ++ l)) ∧ (degF data = none → e = .returned (.bool false)) ∧ Below lo w0 w'
def sumL (data : List (List UInt8)) : Nat := (data.map List.length).sum
theorem sumL_take {data : List (List UInt8)} {i : Nat} (hi : i < data.length) : sumL (data.take (i + 1)) = sumL (data.take i) + data[i].length := by
  unfold sumL
  rw [take_snoc hi, List.map_append, List.sum_append]
  simp only [List.map_cons, List.map_nil, List.sum_cons, List.sum_nil, Nat.add_zero]
theorem sumL_le (data : List (List UInt8)) (i : Nat) : sumL (data.take i) ≤ sumL data := by
  have h : sumL (data.take i) + sumL (data.drop i) = sumL data := by
    unfold sumL
    rw [← List.sum_append, ← List.map_append, List.take_append_drop]
  omega
theorem int_deg {w : World} {lo R p : Nat} {bv : Value} {bs : List UInt8} (h : Rd lo w R bv bs p 0) (hlt : p < bs.length) :
    Calls Tryz.prog 92 #[.pointer (some ⟨R, 0, none⟩)] w fun e w' => ∃ (xv : Int) (p' : Nat) (err' : Int), e = .returned (.int .i64 xv) ∧ Rd lo w' R bv bs p' err' ∧ p ≤ p' ∧
      ((err' = 0 ∧ p < p' ∧ degFrame (bs.drop p) = (degFrame (bs.drop p')).map (xv :: ·)) ∨ (err' ≠ 0 ∧ degFrame (bs.drop p) = none)) ∧ w'.heap.size = w.heap.size ∧ (∀ q, q ≠ R → w'.heap[q]? = w.heap[q]?) ∧ w'.os = w.os ∧ w'.tape = w.tape ∧ w'.output = w.output := by
  refine (int_any h hlt).mono ?_
  rintro e w' ⟨h1, h2, h3⟩
  cases hv : vread (bs.drop p) with
  | none =>
    obtain ⟨rfl, c, hc, hr⟩ := h2 hv
    exact ⟨0, p, c, rfl, hr, Nat.le_refl _, .inr ⟨hc, degFrame_no (fun e => by have := congrArg List.length e; simp at this; omega) hv⟩, h3⟩
  | some xn =>
    obtain ⟨x, n⟩ := xn
    obtain ⟨rfl, hr⟩ := h1 x n hv
    have hn := vread_le hv
    refine ⟨x, p + n, 0, rfl, hr, by omega, .inl ⟨rfl, by omega, ?_⟩, h3⟩
    rw [degFrame_step hv, List.drop_drop]
set_option maxHeartbeats 4000000 in
set_option maxRecDepth 100000 in
theorem degrees_any {lo : Nat} {w0 w : World} {ok : Nat → Prop} {M : Nat} {gen n : Int} {cv sv dv v : Value} {cs : List Int} {ss : List Info} {ds : List Int} {data : List (List UInt8)} (h : MI lo w0 w M gen n cv sv dv cs ss ds) (hd : ∀ W, Below lo w0 W → Sl (kslice kbyte) W ok v data) (hl : sumL data + ds.length ≤ 1099511627776) :
    Calls Tryz.prog 61 #[.pointer (some ⟨M, 0, none⟩), v] w (DegPost lo w0 M gen n cv sv cs ss ds data) := by
  obtain ⟨A, c, rfl, hc, hm⟩ := (hd w h.bel).slice
  have HD := Aside.mk hd
  have HS := Aside.mk hl
  have HI0 : Aside (MI lo w0 w M gen n cv sv dv cs ss (ds ++ [])) := ⟨by rw [List.append_nil]; exact h⟩
  have HF0 : Aside (degF data = (degF (data.drop 0)).map ([] ++ ·)) := ⟨by simp⟩
  clear hd h hl
  go_enter Tryz.func61, Tryz.ntmps61
  go_wp2_with fail
  go_loopg [12] data.length (fun kq v12 wr => ∃ (i : Nat) (dv : Value) (acc : List Int), Aside (i + kq = data.length) ∧ v12 = .int .i64 i ∧ Aside (MI lo w0 wr M gen n cv sv dv cs ss (ds ++ acc)) ∧ Aside (degF data = (degF (data.drop i)).map (acc ++ ·)) ∧ Aside (acc.length ≤ sumL (data.take i)))
  case atStart => exact ⟨0, dv, [], ⟨by omega⟩, rfl, HI0, HF0, ⟨by simp⟩⟩
  case round =>
    clear HI0 HF0
    clear dv
    obtain ⟨i, dv, acc, HI, rfl, HMI, HF, HLa⟩ := hrel
    obtain ⟨wo, rfl⟩ : ∃ wo, wo = wr := ⟨_, rfl⟩
    by_cases hi : i < data.length
    · obtain ⟨b, o, q1, e, h1, s1⟩ := (HD.out wo HMI.out.bel).row i hi
      cases e
      have hM : Aside (data.length - (i + 1) < gk ∧ i + 1 + (data.length - (i + 1)) = data.length) := ⟨by have := HI.out; omega⟩
      have hst := sumL_take hi
      have hsl := sumL_le data (i + 1)
      have hdr : data.drop i = data[i] :: data.drop (i + 1) := List.drop_eq_getElem_cons hi
      have HFi : Aside (degF data = ((degFrame data[i]).bind fun l => (degF (data.drop (i + 1))).map (l ++ ·)).map (acc ++ ·)) := ⟨by rw [HF.out, hdr]; rfl⟩
      have HSt := Aside.mk (And.intro hst hsl)
      have hbl : data[i].length ≤ 1099511627776 := by have := HS.out; omega
      obtain ⟨A3, c3, rfl, _⟩ := s1.slice
      have hcall := newReader_any s1 hbl
      clear hst hsl hdr HF
      generalize data[i] = bs at *
      have hi1 : (i : Int) < (data.length : Int) := by omega
      have hi0 : (0 : Int) ≤ (i : Int) := by omega
      go_wp2_with fail
      refine hcall.mono ?_
      clear hcall s1 h1
      rintro e w2 ⟨R, bv, rfl, hR, B2⟩
      have HRf : Aside (wo.heap.size ≤ R ∧ lo ≤ wo.heap.size ∧ M < wo.heap.size) := ⟨hR.lo, HMI.out.size, blk_lt HMI.out.box⟩
      have HMw := HMI
      have HM2 : Aside (MI lo w0 w2 M gen n cv sv dv cs ss ((ds ++ acc) ++ [])) := ⟨by rw [List.append_nil]; exact HMI.out.below B2⟩
      have HOw : Aside (∀ q, (cv.ownBlock = some q ∨ sv.ownBlock = some q) → q < wo.heap.size) := ⟨fun q e => by
        rcases e with e | e
        · exact (HMI.out.oc.lt q e).2
        · exact (HMI.out.os.lt q e).2⟩
      have HRd := Aside.mk hR
      have HG0 : Aside (degFrame bs = (degFrame (bs.drop 0)).map ([] ++ ·)) := ⟨by simp⟩
      clear hR B2 HMI
      have HN0 : Aside (dv.ownBlock ≠ some R ∧ ∀ q, bv.ownBlock = some q → dv.ownBlock ≠ some q) := ⟨⟨fun e => by have := (HMw.out.od.lt R e).2; have := HRf.out.1; omega, fun q e e2 => by have := (HMw.out.od.lt q e2).2; have := (HRd.out.own.lt q e).1; omega⟩⟩
      go_wp2_with fail
      go_loopg [] bs.length (fun kq wr2 => ∃ (p : Nat) (err : Int) (dv2 : Value) (acc2 : List Int), Aside (Rd wo.heap.size wr2 R bv bs p err) ∧ Aside (MI lo w0 wr2 M gen n cv sv dv2 cs ss ((ds ++ acc) ++ acc2)) ∧ Aside ((err = 0 ∧ p + kq = bs.length ∧ degFrame bs = (degFrame (bs.drop p)).map (acc2 ++ ·)) ∨ (err ≠ 0 ∧ kq = 0 ∧ degFrame bs = none)) ∧ Aside (acc2.length ≤ bs.length ∧ (err = 0 → acc2.length ≤ p)) ∧ Aside (dv2.ownBlock ≠ some R ∧ ∀ q, bv.ownBlock = some q → dv2.ownBlock ≠ some q))
      case atStart => exact ⟨0, 0, dv, [], HRd, HM2, ⟨.inl ⟨rfl, by omega, by simp⟩⟩, ⟨by simp, by simp⟩, HN0⟩
      case round =>
        clear HRd HM2 HN0 HG0
        obtain ⟨p, err, dv2, acc2, HR, HMI, HSt2, HLe, HNe⟩ := hrel
        have hcall := left_any HR.out
        have hple := HR.out.le
        by_cases hgo : err = 0 ∧ p < bs.length
        · obtain ⟨rfl, hlt⟩ := hgo
          rw [if_pos rfl] at hcall
          have hlt' : decide ((0 : Int) < (bs.length : Int) - (p : Int)) = true := decide_eq_true (by omega)
          go_wp2_with fail
          refine hcall.mono ?_
          clear hcall
          rintro e w5 ⟨rfl, q5, rfl⟩
          have B5 : Below wr.heap.size wr (wr.drewN q5) := bdrew (Below.refl _ _) q5
          have HR5 : Aside (Rd wo.heap.size (wr.drewN q5) R bv bs p 0) := ⟨⟨bblk B5 HR.out.box, ownsRow_move HR.out.own fun q e => rfl, HR.out.ne, HR.out.lo, HR.out.le⟩⟩
          have HM5 := Aside.mk (HMI.out.below B5)
          clear B5 HR HMI
          generalize wr.drewN q5 = w5 at *
          obtain ⟨_, _, _, _, k4⟩ := five HM5.out.box
          have k4d : w5.drew.cell? ⟨M, 4, none⟩ = some dv2 := k4
          obtain ⟨A9, n9, c9, hdv⟩ := own_slice HM5.out.od
          subst hdv
          have HRd : Aside (Rd wo.heap.size w5.drew R bv bs p 0) := ⟨⟨HR5.out.box, ownsRow_move HR5.out.own fun q e => rfl, HR5.out.ne, HR5.out.lo, HR5.out.le⟩⟩
          have HMd := Aside.mk (HM5.out.below (bdrew1 (Below.refl _ _)))
          have hint := int_deg HRd.out hlt
          obtain ⟨ii, hii, hiz, his, hib⟩ := info_parts Tryz.infoInt
          have HLL : Aside (((ds ++ acc) ++ acc2).length ≤ 1099511627776) := ⟨by
            have h1 := HS.out
            have h2 := HSt.out
            have h3 := HLa.out
            have h4 := HLe.out.1
            simp only [List.length_append]
            omega⟩
          go_wp2_with fail
          go_upto_region 6 with (fail)
          refine wp_region_X 13 (fun w' => w'.cell? ⟨M, 4, none⟩ = some (.slice A9 n9 c9)) (by kernel_rfl) ?_
          refine wpAnyX_take (i := 0) (oi := ⟨some 21, .move (.tmp 0), _, _, _, _⟩) (v := .pointer (some ⟨M, 0, none⟩)) rfl (by kernel_rfl) (by kernel_rfl) (by kernel_rfl) (by kernel_rfl) (fun _ _ _ h => h) (Or.inl ⟨by rfl, ?_⟩) k4d ?_
          · intro w' hSw
            first | (go_simp; done) | (go_simp; rfl)
          simp only [Act.put, List.setIfInBounds_toArray, List.set_cons_zero, List.set_cons_succ]
          refine wpAnyX_take (i := 1) (oi := ⟨some 22, .move (.tmp 0), _, _, _, _⟩) (v := .pointer (some ⟨M, 0, none⟩)) rfl (by kernel_rfl) (by kernel_rfl) (by kernel_rfl) (by kernel_rfl) (fun _ _ _ h => h) (Or.inl ⟨by rfl, ?_⟩) k4d ?_
          · intro w' hSw
            first | (go_simp; done) | (go_simp; rfl)
          simp only [Act.put, List.setIfInBounds_toArray, List.set_cons_zero, List.set_cons_succ]
          refine wpAnyX_take (i := 2) (oi := ⟨some 23, .nilCheck (.tmp 22), _, _, _, _⟩) (v := .pointer (some ⟨M, 0, none⟩)) rfl (by kernel_rfl) (by kernel_rfl) (by kernel_rfl) (by kernel_rfl) (fun _ _ _ h => h) (Or.inl ⟨by rfl, ?_⟩) k4d ?_
          · intro w' hSw
            first | (go_simp; done) | (go_simp; rfl)
          simp only [Act.put, List.setIfInBounds_toArray, List.set_cons_zero, List.set_cons_succ]
          refine wpAnyX_take (i := 3) (oi := ⟨some 24, .fieldAddr 96 (.tmp 23) 0, _, _, _, _⟩) (v := .pointer (some ⟨M, 0, none⟩)) rfl (by kernel_rfl) (by kernel_rfl) (by kernel_rfl) (by kernel_rfl) (fun _ _ _ h => h) (Or.inl ⟨by rfl, ?_⟩) k4d ?_
          · intro w' hSw
            first | (go_simp; done) | (go_simp; rfl)
          simp only [Act.put, List.setIfInBounds_toArray, List.set_cons_zero, List.set_cons_succ]
          refine wpAnyX_take (i := 4) (oi := ⟨some 25, .fieldAddr 33 (.tmp 24) 4, _, _, _, _⟩) (v := .pointer (some ⟨M, 4, none⟩)) rfl (by kernel_rfl) (by kernel_rfl) (by kernel_rfl) (by kernel_rfl) (fun _ _ _ h => h) (Or.inl ⟨by rfl, ?_⟩) k4d ?_
          · intro w' hSw
            first | (go_simp; done) | (go_simp; rfl)
          simp only [Act.put, List.setIfInBounds_toArray, List.set_cons_zero, List.set_cons_succ]
          refine wpAnyX_take (i := 5) (oi := ⟨some 26, .load 30 (.tmp 25), _, _, _, _⟩) (v := .slice A9 n9 c9) rfl (by kernel_rfl) (by kernel_rfl) (by kernel_rfl) (by kernel_rfl) (fun _ _ _ h => h) (Or.inl ⟨by rfl, ?_⟩) k4d ?_
          · intro w' hSw
            first | (go_simp; done) | (go_simp; rfl)
          simp only [Act.put, List.setIfInBounds_toArray, List.set_cons_zero, List.set_cons_succ]
          refine wpAnyX_take (i := 6) (oi := ⟨some 27, .move (.tmp 7), _, _, _, _⟩) (v := .pointer (some ⟨R, 0, none⟩)) rfl (by kernel_rfl) (by kernel_rfl) (by kernel_rfl) (by kernel_rfl) (fun _ _ _ h => h) (Or.inl ⟨by rfl, ?_⟩) k4d ?_
          · intro w' hSw
            first | (go_simp; done) | (go_simp; rfl)
          simp only [Act.put, List.setIfInBounds_toArray, List.set_cons_zero, List.set_cons_succ]
          refine wpAnyX_one (i := 7) (oi := ⟨some 28, .call { callee := .value (.func 92), args := #[.tmp 27], argTypes := #[137] }, _, _, _, _⟩) rfl (by kernel_rfl) (fun K hK => ?_)
          go_simp
          refine hint.mono ?_
          rintro e w6 ⟨xv, p', err', rfl, hr6, hpp, hst6, hz6, hf6, ho6, ht6, hu6⟩
          have HM6 := Aside.mk (HMd.out.far (R := R) (by have := HRf.out; omega) (by have := HRf.out; omega) (fun e => by have := HOw.out R (.inl e); have := HRf.out; omega) (fun e => by have := HOw.out R (.inr e); have := HRf.out; omega) HNe.out.1 hz6 hf6 ho6 ht6 hu6)
          have HR6 := Aside.mk hr6
          have HP6 := Aside.mk (And.intro hpp hst6)
          have k46 : w6.cell? ⟨M, 4, none⟩ = some (.slice A9 n9 c9) := by obtain ⟨_, _, _, _, k⟩ := five HM6.out.box; exact k
          clear hr6 hpp hst6 hz6 hf6 ho6 ht6 hu6
          refine hK _ _ ⟨.inr k46, ?_⟩
          clear hK K
          try simp only [Act.put, List.setIfInBounds_toArray, List.set_cons_zero, List.set_cons_succ]
          have HM7 := Aside.mk (HM6.out.below ((Below.refl w6.heap.size w6).alloc (Nat.le_refl _) (.cells #[.int .i64 xv] 3)))
          have HX7 := Aside.mk (heap_alloc_new w6 (.cells #[.int .i64 xv] 3))
          have HR7 : Aside (Rd wo.heap.size (w6.alloc (.cells #[.int .i64 xv] 3)) R bv bs p' err') := ⟨⟨(Below.heap_alloc _ _ _ (blk_lt HR6.out.box)).trans HR6.out.box, HR6.out.own.alloc _, HR6.out.ne, HR6.out.lo, HR6.out.le⟩⟩
          have k47 : (w6.alloc (.cells #[.int .i64 xv] 3)).cell? ⟨M, 4, none⟩ = some (.slice A9 n9 c9) := by obtain ⟨_, _, _, _, k⟩ := five HM7.out.box; exact k
          refine wpAnyX_one (i := 8) (oi := ⟨some 29, .buildSlice 30 1 #[(0, .tmp 28)], _, _, _, _⟩) rfl (by kernel_rfl) (fun K hK => ?_)
          go_simp
          refine hK _ _ ⟨.inr k47, ?_⟩
          clear hK K
          try simp only [Act.put, List.setIfInBounds_toArray, List.set_cons_zero, List.set_cons_succ]
          refine wpAnyX_one (i := 9) (oi := ⟨some 30, .call { callee := .builtin .append, args := #[.tmp 26, .tmp 29], argTypes := #[30, 30] }, _, _, _, _⟩) rfl (by kernel_rfl) (fun K hK => ?_)
          refine step_append_lies (P := Tryz.prog) (w := w6.alloc (.cells #[.int .i64 xv] 3)) (by rfl) _ _ _ (by rfl) lo 3 ii _ 1 8 Tryz.underlying30 hii hiz his hib rfl (by decide) (.slice A9 n9 c9) ((ds ++ acc) ++ acc2).length (ints ((ds ++ acc) ++ acc2)) (by rfl) HM7.out.od ⟨_, 0, none⟩ 1 1 [.int .i64 xv] (by rfl) (by rfl) (World.news_of_block HX7.out) (by simp [Value.oneCell']) (by decide) (by simp only [maxLen]; have := HLL.out; omega) (by have := HLL.out; omega) HM7.out.size _ rfl ?_
          intro g cap w8 hown hg hat hlt8
          have hm8 : Moved (w6.alloc (.cells #[.int .i64 xv] 3)) (.slice A9 n9 c9) (.slice (some ⟨g, 0, none⟩) (((ds ++ acc) ++ acc2).length + 1) cap) := by
            rcases hat with e | e
            · exact .inl e.symm
            · exact .inr ⟨g, rfl, by omega⟩
          obtain ⟨hbox8, hm8'⟩ := HM7.out.deg xv hown hg hm8
          have HM8 := Aside.mk hm8'
          obtain ⟨_, _, _, _, k48⟩ := five hbox8
          have f48 := (store_at hbox8 4 (show 4 < 5 by decide)).2.1
          have hgR : g ≠ R := by
            rcases hat with e | e
            · exact fun h => HNe.out.1 (by rw [e, h])
            · have := blk_lt HR7.out.box; omega
          have hgb : ∀ q, bv.ownBlock = some q → g ≠ q := fun q eq hq => by
            rcases hat with e | e
            · exact HNe.out.2 q eq (by rw [e, hq])
            · have := (HR7.out.own.lt q eq).2; omega
          have hRM : R ≠ M := by have := HRf.out; omega
          have HR8 : Aside (Rd wo.heap.size (w8.setCell ⟨M, 4, none⟩ (.slice (some ⟨g, 0, none⟩) (((ds ++ acc) ++ acc2).length + 1) cap)) R bv bs p' err') := ⟨⟨(Below.heap_setCell _ _ _ _ hRM).trans ((hg.block R (blk_lt HR7.out.box) (fun e => HNe.out.1 e.symm)).trans HR7.out.box), ownsRow_move HR7.out.own fun q e => (Below.heap_setCell _ _ _ _ (by have := (HR7.out.own.lt q e).1; have := HRf.out; show q ≠ M; omega)).trans (hg.block q (HR7.out.own.lt q e).2 fun e2 => HNe.out.2 q e e2.symm), HR7.out.ne, HR7.out.lo, HR7.out.le⟩⟩
          have HN8 : Aside ((Value.slice (some ⟨g, 0, none⟩) (((ds ++ acc) ++ acc2).length + 1) cap).ownBlock ≠ some R ∧ ∀ q, bv.ownBlock = some q → (Value.slice (some ⟨g, 0, none⟩) (((ds ++ acc) ++ acc2).length + 1) cap).ownBlock ≠ some q) := ⟨⟨fun e => hgR (Option.some.inj e), fun q e e2 => hgb q e (Option.some.inj e2)⟩⟩
          generalize hLN : ((ds ++ acc) ++ acc2).length + 1 = LN at *
          refine hK _ _ ⟨.inr k48, ?_⟩
          clear hLN
          clear hK K hown hg hat hlt8 hm8 hm8' hgR hgb
          try simp only [Act.put, List.setIfInBounds_toArray, List.set_cons_zero, List.set_cons_succ]
          refine wpAnyX_one (i := 10) (oi := ⟨some 31, .nilCheck (.tmp 21), _, _, _, _⟩) rfl (by kernel_rfl) (fun K hK => ?_)
          go_simp
          refine hK _ _ ⟨.inr k48, ?_⟩
          clear hK K
          try simp only [Act.put, List.setIfInBounds_toArray, List.set_cons_zero, List.set_cons_succ]
          refine wpAnyX_one (i := 11) (oi := ⟨some 32, .fieldAddr 96 (.tmp 31) 0, _, _, _, _⟩) rfl (by kernel_rfl) (fun K hK => ?_)
          go_simp
          refine hK _ _ ⟨.inr k48, ?_⟩
          clear hK K
          try simp only [Act.put, List.setIfInBounds_toArray, List.set_cons_zero, List.set_cons_succ]
          refine wpAnyX_one (i := 12) (oi := ⟨some 33, .fieldAddr 33 (.tmp 32) 4, _, _, _, _⟩) rfl (by kernel_rfl) (fun K hK => ?_)
          go_simp
          refine hK _ _ ⟨.inr k48, ?_⟩
          clear hK K
          try simp only [Act.put, List.setIfInBounds_toArray, List.set_cons_zero, List.set_cons_succ]
          refine wpAnyX_one (i := 13) (oi := ⟨none, .store 30 (.tmp 33) (.tmp 30), _, _, _, _⟩) rfl (by kernel_rfl) (fun K hK => ?_)
          go_simp
          refine hK _ _ ⟨.inl rfl, ?_⟩
          clear hK K
          try simp only [Act.put, List.setIfInBounds_toArray, List.set_cons_zero, List.set_cons_succ]
          refine wpAnyX_done (by kernel_rfl) ?_ _
          go_wp2_with fail
          have hst := HP6.out.2
          have hpp := HP6.out.1
          have h2 := HSt2.out
          rcases hst with ⟨he', hlt2, hdg⟩ | ⟨he', hdg⟩
          · go_roundg (bs.length - p')
            case measure => rcases h2 with ⟨_, h3, _⟩ | ⟨h3, _⟩; omega; exact absurd rfl h3
            case rel =>
              refine ⟨p', err', _, acc2 ++ [xv], HR8, ⟨by rw [← List.append_assoc]; exact HM8.out⟩, ⟨.inl ⟨he', by have := HR6.out.le; omega, ?_⟩⟩, ⟨by have := HLe.out.2 (by first | rfl | trivial); have := HR6.out.le; simp; omega, fun _ => by have := HLe.out.2 (by first | rfl | trivial); simp; omega⟩, HN8⟩
              rcases h2 with ⟨_, _, h3⟩ | ⟨h3, _⟩
              · rw [h3, hdg]
                cases degFrame (bs.drop p') <;> simp
              · exact absurd rfl h3
          · go_roundg 0
            case measure => rcases h2 with ⟨_, h3, _⟩ | ⟨h3, _⟩; omega; exact absurd rfl h3
            case rel =>
              refine ⟨p', err', _, acc2 ++ [xv], HR8, ⟨by rw [← List.append_assoc]; exact HM8.out⟩, ⟨.inr ⟨he', rfl, ?_⟩⟩, ⟨by have := HLe.out.2 (by first | rfl | trivial); simp; omega, fun e => absurd e he'⟩, HN8⟩
              rcases h2 with ⟨_, _, h3⟩ | ⟨h3, _⟩
              · rw [h3, hdg]; rfl
              · exact absurd rfl h3
        · have hval : (if err = 0 then (bs.length : Int) - (p : Int) else 0) = 0 := by
            split
            · omega
            · rfl
          rw [hval] at hcall
          have hex : Aside ((err = 0 ∧ degFrame bs = some acc2) ∨ (err ≠ 0 ∧ degFrame bs = none)) := ⟨by
            rcases HSt2.out with ⟨h1, h2, h3⟩ | ⟨h1, _, h3⟩
            · refine .inl ⟨h1, ?_⟩
              rw [h3, List.drop_eq_nil_of_le (by omega), degFrame_nil]
              simp
            · exact .inr ⟨h1, h3⟩⟩
          clear hval HSt2 hgo
          go_wp2_with fail
          refine hcall.mono ?_
          clear hcall
          rintro e w5 ⟨rfl, q5, rfl⟩
          have B5 : Below wr.heap.size wr (wr.drewN q5) := bdrew (Below.refl _ _) q5
          have HR5 : Aside (Rd wo.heap.size (wr.drewN q5) R bv bs p err) := ⟨⟨bblk B5 HR.out.box, ownsRow_move HR.out.own fun q e => rfl, HR.out.ne, HR.out.lo, HR.out.le⟩⟩
          have HM5 := Aside.mk (HMI.out.below B5)
          clear B5 HR HMI
          generalize wr.drewN q5 = w5 at *
          have hcall := err_any HR5.out
          go_wp2_with fail
          refine hcall.mono ?_
          clear hcall
          rintro e w6 ⟨rfl, q6, rfl⟩
          have HM6 := Aside.mk (HM5.out.below (bdrew (Below.refl _ _) q6))
          generalize w5.drewN q6 = w6 at *
          rcases hex.out with ⟨he, hdg⟩ | ⟨he, hdg⟩
          · have hb : (err != 0) = false := by simp [he]
            have HF1 : Aside (degF data = (degF (data.drop (i + 1))).map ((acc ++ acc2) ++ ·)) := ⟨by
              rw [HFi.out, hdg]
              cases degF (data.drop (i + 1)) <;> simp⟩
            have HM7 : Aside (MI lo w0 w6 M gen n cv sv dv2 cs ss (ds ++ (acc ++ acc2))) := ⟨by rw [← List.append_assoc]; exact HM6.out⟩
            have HL7 : Aside ((acc ++ acc2).length ≤ sumL (data.take (i + 1))) := ⟨by have h1 := HSt.out.1; have h2 := HLa.out; have h3 := HLe.out.1; rw [List.length_append]; omega⟩
            clear he hdg
            go_wp2_with fail
            go_roundg (data.length - (i + 1))
            case measure => exact hM.out.1
            case rel => exact ⟨i + 1, dv2, acc ++ acc2, ⟨hM.out.2⟩, by go_num, HM7, HF1, HL7⟩
          · have hb : (err != 0) = true := by simp [he]
            have hno : degF data = none := by rw [HFi.out, hdg]; rfl
            have HP : Aside (DegPost lo w0 M gen n cv sv cs ss ds data (.returned (.bool false)) w6) := ⟨⟨(fun l e => by rw [hno] at e; cases e), (fun _ => rfl), HM6.out.bel⟩⟩
            clear hdg hno
            go_wp2_with fail
            go_ret
            exact HP.out
    · have hie : i = data.length := by have := HI.out; omega
      have hso : degF data = some acc := by
        rw [HF.out, List.drop_eq_nil_of_le (by omega)]
        simp [degF]
      have HP : Aside (DegPost lo w0 M gen n cv sv cs ss ds data (.returned (.bool true)) wo) := ⟨⟨(fun l e => by rw [hso] at e; cases e; exact ⟨rfl, dv, HMI.out⟩), (fun e => by rw [hso] at e; cases e), HMI.out.bel⟩⟩
      replace hi : ¬ ((i : Int) < (data.length : Int)) := by omega
      clear hso HF HMI
      go_wp2_with fail
      go_ret
      exact HP.out
end Go.Proofs.YtgbladpoglhleaaGreatDoor
