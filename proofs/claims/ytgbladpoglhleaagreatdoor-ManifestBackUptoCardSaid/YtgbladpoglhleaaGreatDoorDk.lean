/- manifest.shards walked. No condition. -/
import Derived.Test.YtgbladpoglhleaaGreatDoorDm
namespace Go.Proofs.YtgbladpoglhleaaGreatDoor
open Go.RowKit
theorem numAt_drop (b : List UInt8) (p q : Nat) : numAt (b.drop p) q = numAt b (p + q) := by
  simp only [numAt, List.getD_eq_getElem?_getD, List.getElem?_drop, Nat.add_assoc]
theorem number_at {w : World} {ok : Nat → Prop} {b : List UInt8} {bb bo c5 p : Nat} {z x : Int} (j : Nat) (hs : Sl kbyte w ok (.slice (some ⟨bb, bo + p, none⟩) (b.length - p) (c5 - p)) (b.drop p)) (hz : z = (j : Int)) (hj : j < 4) (h16 : p + 16 ≤ b.length) (hx : numAt b (p + 4 * j) = x) :
    Calls Tryz.prog 59 #[.slice (some ⟨bb, bo + p, none⟩) (b.length - p) (c5 - p), .int .i64 z] w fun e w' => e = .returned (.int .i64 x) ∧ Below w.heap.size w w' := by
  subst hz
  refine (number_any j hs hj (by rw [List.length_drop]; omega)).mono ?_
  rintro e w' ⟨h1, h2⟩
  rw [numAt_drop, hx] at h1
  exact ⟨h1, h2⟩
theorem sl_far {α : Type} {K : Kind α} {lo : Nat} {w0 W W' : World} {ok : Nat → Prop} {v : Value} {xs : List α} (hok : ∀ k, ok k → k < lo) (h1 : Below lo w0 W) (h2 : Below lo w0 W') (h : Sl K W ok v xs) : Sl K W' ok v xs :=
  h.move fun k hk => (h2.block k (hok k hk)).trans (h1.block k (hok k hk)).symm
def ShPost (lo : Nat) (w0 : World) (M : Nat) (gen n : Int) (ok : Nat → Prop) (dv : Value) (cs : List Int) (ss : List Info) (ds : List Int) (k : Nat) (data : List (List UInt8)) (e : Ending) (w' : World) : Prop :=
  (∀ c s r, shF k data = some (c, s, r) → ∃ rv cv sv, e = .returned (.tuple #[rv, .bool true]) ∧ (∀ W, Below lo w0 W → Sl (kslice kbyte) W ok rv r) ∧ MI lo w0 w' M gen n cv sv dv (cs ++ c) (ss ++ s) ds) ∧
  (shF k data = none → e = .returned (.tuple #[.slice none 0 0, .bool false])) ∧ Below lo w0 w'
theorem cutsOf_succ (b : List UInt8) (i : Nat) : cutsOf b (i + 1) = cutsOf b i ++ [numAt b (16 * i)] := by
  simp [cutsOf, List.range_succ]
theorem infosOf_succ (b : List UInt8) (i : Nat) : infosOf b (i + 1) = infosOf b i ++ [infoAt b i] := by
  simp [infosOf, List.range_succ]
theorem cutsOf_length (b : List UInt8) (i : Nat) : (cutsOf b i).length = i := by simp [cutsOf]
theorem infosOf_length (b : List UInt8) (i : Nat) : (infosOf b i).length = i := by simp [infosOf]
set_option maxHeartbeats 4000000 in
set_option maxRecDepth 100000 in
theorem shards_any {lo : Nat} {w0 w : World} {ok : Nat → Prop} {M : Nat} {gen n : Int} {cv sv dv v : Value} {cs : List Int} {ss : List Info} {ds : List Int} {data : List (List UInt8)} (k : Nat) (hk : k ≤ 1000) (h : MI lo w0 w M gen n cv sv dv cs ss ds) (hd : ∀ W, Below lo w0 W → Sl (kslice kbyte) W ok v data) (hok : ∀ q, ok q → q < lo) (hcl : cs.length + k ≤ 20000) (hsl : ss.length = cs.length) :
    Calls Tryz.prog 60 #[.pointer (some ⟨M, 0, none⟩), .int .i64 k, v] w (ShPost lo w0 M gen n ok dv cs ss ds k data) := by
  obtain ⟨A, c, rfl, hc, hm⟩ := (hd w h.bel).slice
  have HD := Aside.mk hd
  have HOk := Aside.mk hok
  have HLn := Aside.mk (And.intro hcl hsl)
  have HI0 : Aside (MI lo w0 w M gen n cv sv dv (cs ++ []) (ss ++ []) ds) := ⟨by rw [List.append_nil, List.append_nil]; exact h⟩
  clear hd h hok hcl hsl
  go_enter Tryz.func60, Tryz.ntmps60
  go_wp2_with fail
  go_loopg [1, 2] k (fun kq v1 v2 wr => ∃ (k' : Nat) (dat : List (List UInt8)) (cv sv : Value) (ac : List Int) (az : List Info), Aside (kq = k') ∧ v1 = .int .i64 k' ∧ Aside (∀ W, Below lo w0 W → Sl (kslice kbyte) W ok v2 dat) ∧ Aside (MI lo w0 wr M gen n cv sv dv (cs ++ ac) (ss ++ az) ds) ∧ Aside (shF k data = (shF k' dat).map fun q => (ac ++ q.1, az ++ q.2.1, q.2.2)) ∧ Aside (ac.length + k' = k ∧ az.length = ac.length))
  case atStart => exact ⟨k, data, cv, sv, [], [], ⟨rfl⟩, rfl, HD, HI0, ⟨by simp⟩, ⟨by simp, rfl⟩⟩
  case round =>
    clear HI0
    clear cv sv
    obtain ⟨k', dat, cv, sv, ac, az, HK, rfl, HDt, HMI, HF, HLa⟩ := hrel
    obtain ⟨wo, rfl⟩ : ∃ wo, wo = wr := ⟨_, rfl⟩
    obtain ⟨A2, c2, rfl, hc2, hm2⟩ := (HDt.out wo HMI.out.bel).slice
    by_cases hk0 : 0 < k'
    · cases dat with
      | nil =>
        have hno : shF k data = none := by rw [HF.out, shF, if_neg (by omega)]; rfl
        have HP : Aside (ShPost lo w0 M gen n ok dv cs ss ds k data (.returned (.tuple #[.slice none 0 0, .bool false])) wo) := ⟨⟨(fun c s r e => by rw [hno] at e; cases e), (fun _ => rfl), HMI.out.bel⟩⟩
        have hk1 : (0 : Int) < (k' : Int) := by omega
        clear hno HF HMI
        go_wp2_with fail
        exact bodyPost_ret (by simp [results, Tryz.results60, go_sem]) rfl HP.out
      | cons b r =>
        obtain ⟨bd, od, q1, e, h1, s1⟩ := (HDt.out wo HMI.out.bel).row 0 (by simp)
        cases e
        simp only [Nat.add_zero, List.getElem_cons_zero] at h1 s1
        obtain ⟨A3, c3, rfl, _⟩ := s1.slice
        have hk1 : (0 : Int) < (k' : Int) := by omega
        have hmin : min (k' : Int) 50 = ((min k' 50 : Nat) : Int) := by omega
        by_cases hlb : b.length = 16 * min k' 50
        · have HStep : Aside (shF k' (b :: r) = (shF (k' - min k' 50) r).map fun q => (cutsOf b (min k' 50) ++ q.1, infosOf b (min k' 50) ++ q.2.1, q.2.2)) := ⟨by rw [shF, if_neg (by omega), if_neg (by omega)]⟩
          have hmm : min k' 50 ≤ 50 := Nat.min_le_right _ _
          have hmk : 0 < min k' 50 := by omega
          have hmle : min k' 50 ≤ k' := Nat.min_le_left _ _
          have hne : ((b.length : Int) != 16 * ((min k' 50 : Nat) : Int)) = false := by simp; omega
          have HI1 : Aside (MI lo w0 wo M gen n cv sv dv ((cs ++ ac) ++ cutsOf b 0) ((ss ++ az) ++ infosOf b 0) ds) := ⟨by simpa [cutsOf, infosOf] using HMI.out⟩
          have hrl : ((r.length : Int) + 1 == 0) = false := by simp; omega
          generalize min k' 50 = mk at *
          have HLB := Aside.mk hlb
          clear hlb
          go_wp2_with fail
          clear HMI
          go_loopg [28] mk (fun kq v28 wr => ∃ (i : Nat) (cv sv : Value), Aside (i + kq = mk) ∧ v28 = .int .i64 i ∧ Aside (MI lo w0 wr M gen n cv sv dv ((cs ++ ac) ++ cutsOf b i) ((ss ++ az) ++ infosOf b i) ds))
          case atStart => exact ⟨0, cv, sv, ⟨by omega⟩, rfl, HI1⟩
          case round =>
            clear HI1
            clear cv sv
            obtain ⟨i, cv, sv, HI, rfl, HMI⟩ := hrel
            obtain ⟨w2, rfl⟩ : ∃ w2, w2 = wr := ⟨_, rfl⟩
            by_cases hi : i < mk
            · obtain ⟨bd', od', q1, e, h1, s1⟩ := (HDt.out w2 HMI.out.bel).row 0 (by simp)
              cases e
              simp only [Nat.add_zero, List.getElem_cons_zero] at h1 s1
              obtain ⟨A5, c5, rfl, hc5, hm5⟩ := s1.slice
              obtain ⟨bb, bo, e, -⟩ := s1.byte 0 (by have := HLB.out; omega)
              cases e
              have hM : Aside (mk - (i + 1) < gk ∧ i + 1 + (mk - (i + 1)) = mk) := ⟨by have := HI.out; omega⟩
              have hi1 : (i : Int) < (mk : Int) := by omega
              have hi0 : (0 : Int) ≤ (i : Int) := by omega
              have h16 : 16 * i + 16 ≤ b.length := by have := HLB.out; omega
              have hnc : ¬ (c5 = 16 * i) := by omega
              have HSd : Aside (Sl kbyte w2 ok (.slice (some ⟨bb, bo + 16 * i, none⟩) (b.length - 16 * i) (c5 - 16 * i)) (b.drop (16 * i))) := ⟨by
                have h := Sl.drop (i := 16 * i) s1 (by omega)
                rw [show kbyte.sz = 1 from rfl, Nat.mul_one] at h
                exact h⟩
              clear s1
              obtain ⟨x0, hx0⟩ : ∃ x0, x0 = numAt b (16 * i) := ⟨_, rfl⟩
              obtain ⟨x1, hx1⟩ : ∃ x1, x1 = numAt b (16 * i + 4) := ⟨_, rfl⟩
              obtain ⟨x2, hx2⟩ : ∃ x2, x2 = numAt b (16 * i + 8) := ⟨_, rfl⟩
              obtain ⟨x3, hx3⟩ : ∃ x3, x3 = numAt b (16 * i + 12) := ⟨_, rfl⟩
              have hx2r : 0 ≤ x2 ∧ x2 ≤ 4294967295 := by rw [hx2]; exact numAt_in _ _
              have HX0 := Aside.mk hx0
              have HX1 := Aside.mk hx1
              have HX2 := Aside.mk hx2
              have HX3 := Aside.mk hx3
              have HXR := Aside.mk hx2r
              have HINF : Aside (infoAt b i = ⟨x1, UInt32.ofNat x2.toNat, x3⟩) := ⟨by unfold infoAt; rw [← hx1, ← hx2, ← hx3]⟩
              have HSUM : Aside (((UInt32.ofNat x2.toNat).toNat : Int) = x2) := ⟨by simp only [UInt32.toNat_ofNat']; omega⟩
              clear hx0 hx1 hx2 hx3 hx2r
              obtain ⟨A9, n9, c9, hcv⟩ := own_slice HMI.out.oc
              subst hcv
              obtain ⟨A8, n8, c8, hsv⟩ := own_slice HMI.out.os
              subst hsv
              have HLc : Aside (((cs ++ ac) ++ cutsOf b i).length ≤ 100000 ∧ ((ss ++ az) ++ infosOf b i).length ≤ 100000) := ⟨by
                have h1 := HLn.out
                have h2 := HLa.out
                have h3 := HI.out
                simp only [List.length_append, cutsOf_length, infosOf_length]
                omega⟩
              have Bd0 : Below lo w0 w2 := HMI.out.bel
              have Hbel2 := Aside.mk Bd0
              clear Bd0
              have k2d : w2.drew.cell? ⟨M, 2, none⟩ = some (.slice A9 n9 c9) := by obtain ⟨_, _, k, _, _⟩ := five HMI.out.box; exact k
              have HMd := Aside.mk (HMI.out.below (bdrew1 (Below.refl _ _)))
              obtain ⟨ii, hii, hiz, his, hib⟩ := info_parts Tryz.infoInt
              obtain ⟨fi, hfi, hfz, hfs, hfb⟩ := info_parts Tryz.infoInfo
              go_wp2_with fail
              go_upto_region 9 with (fail)
              refine wp_region_X 13 (fun w' => w'.cell? ⟨M, 2, none⟩ = some (.slice A9 n9 c9)) (by kernel_rfl) ?_
              refine wpAnyX_take (i := 0) (oi := ⟨some 37, .move (.tmp 0), _, _, _, _⟩) (v := .pointer (some ⟨M, 0, none⟩)) rfl (by kernel_rfl) (by kernel_rfl) (by kernel_rfl) (by kernel_rfl) (fun _ _ _ h => h) (Or.inl ⟨by rfl, ?_⟩) k2d ?_
              · intro w' hSw
                first | (go_simp; done) | (go_simp; rfl) | (go_simp; exact Go.IntWalk.i64_in _ (by omega)) | (go_simp; simp only [*])
              simp only [Act.put, List.setIfInBounds_toArray, List.set_cons_zero, List.set_cons_succ]
              refine wpAnyX_take (i := 1) (oi := ⟨some 38, .move (.tmp 0), _, _, _, _⟩) (v := .pointer (some ⟨M, 0, none⟩)) rfl (by kernel_rfl) (by kernel_rfl) (by kernel_rfl) (by kernel_rfl) (fun _ _ _ h => h) (Or.inl ⟨by rfl, ?_⟩) k2d ?_
              · intro w' hSw
                first | (go_simp; done) | (go_simp; rfl) | (go_simp; exact Go.IntWalk.i64_in _ (by omega)) | (go_simp; simp only [*])
              simp only [Act.put, List.setIfInBounds_toArray, List.set_cons_zero, List.set_cons_succ]
              refine wpAnyX_take (i := 2) (oi := ⟨some 39, .nilCheck (.tmp 38), _, _, _, _⟩) (v := .pointer (some ⟨M, 0, none⟩)) rfl (by kernel_rfl) (by kernel_rfl) (by kernel_rfl) (by kernel_rfl) (fun _ _ _ h => h) (Or.inl ⟨by rfl, ?_⟩) k2d ?_
              · intro w' hSw
                first | (go_simp; done) | (go_simp; rfl) | (go_simp; exact Go.IntWalk.i64_in _ (by omega)) | (go_simp; simp only [*])
              simp only [Act.put, List.setIfInBounds_toArray, List.set_cons_zero, List.set_cons_succ]
              refine wpAnyX_take (i := 3) (oi := ⟨some 40, .fieldAddr 96 (.tmp 39) 0, _, _, _, _⟩) (v := .pointer (some ⟨M, 0, none⟩)) rfl (by kernel_rfl) (by kernel_rfl) (by kernel_rfl) (by kernel_rfl) (fun _ _ _ h => h) (Or.inl ⟨by rfl, ?_⟩) k2d ?_
              · intro w' hSw
                first | (go_simp; done) | (go_simp; rfl) | (go_simp; exact Go.IntWalk.i64_in _ (by omega)) | (go_simp; simp only [*])
              simp only [Act.put, List.setIfInBounds_toArray, List.set_cons_zero, List.set_cons_succ]
              refine wpAnyX_take (i := 4) (oi := ⟨some 41, .fieldAddr 33 (.tmp 40) 2, _, _, _, _⟩) (v := .pointer (some ⟨M, 2, none⟩)) rfl (by kernel_rfl) (by kernel_rfl) (by kernel_rfl) (by kernel_rfl) (fun _ _ _ h => h) (Or.inl ⟨by rfl, ?_⟩) k2d ?_
              · intro w' hSw
                first | (go_simp; done) | (go_simp; rfl) | (go_simp; exact Go.IntWalk.i64_in _ (by omega)) | (go_simp; simp only [*])
              simp only [Act.put, List.setIfInBounds_toArray, List.set_cons_zero, List.set_cons_succ]
              refine wpAnyX_take (i := 5) (oi := ⟨some 42, .load 30 (.tmp 41), _, _, _, _⟩) (v := .slice A9 n9 c9) rfl (by kernel_rfl) (by kernel_rfl) (by kernel_rfl) (by kernel_rfl) (fun _ _ _ h => h) (Or.inl ⟨by rfl, ?_⟩) k2d ?_
              · intro w' hSw
                first | (go_simp; done) | (go_simp; rfl) | (go_simp; exact Go.IntWalk.i64_in _ (by omega)) | (go_simp; simp only [*])
              simp only [Act.put, List.setIfInBounds_toArray, List.set_cons_zero, List.set_cons_succ]
              refine wpAnyX_take (i := 6) (oi := ⟨some 43, .move (.tmp 10), _, _, _, _⟩) (v := .slice (some ⟨bb, bo + 16 * i, none⟩) (b.length - 16 * i) (c5 - 16 * i)) rfl (by kernel_rfl) (by kernel_rfl) (by kernel_rfl) (by kernel_rfl) (fun _ _ _ h => h) (Or.inl ⟨by rfl, ?_⟩) k2d ?_
              · intro w' hSw
                first | (go_simp; done) | (go_simp; rfl) | (go_simp; exact Go.IntWalk.i64_in _ (by omega)) | (go_simp; simp only [*])
              simp only [Act.put, List.setIfInBounds_toArray, List.set_cons_zero, List.set_cons_succ]
              refine wpAnyX_one (i := 7) (oi := ⟨some 44, .call { callee := .value (.func 59), args := #[.tmp 43, .const (.int .i64 0)], argTypes := #[44, 3] }, _, _, _, _⟩) rfl (by kernel_rfl) (fun K hK => ?_)
              go_simp
              refine (number_at (z := 0) (x := x0) 0 (sl_far HOk.out Hbel2.out (bdrew1 Hbel2.out) HSd.out) rfl (by decide) h16 HX0.out.symm).mono ?_
              rintro e w6 ⟨rfl, B6⟩
              have HM6 := Aside.mk (HMd.out.below B6)
              have k26 : w6.cell? ⟨M, 2, none⟩ = some (.slice A9 n9 c9) := bcell B6 k2d
              clear B6
              refine hK _ _ ⟨.inr k26, ?_⟩
              clear hK K
              try simp only [Act.put, List.setIfInBounds_toArray, List.set_cons_zero, List.set_cons_succ]
              refine wpAnyX_one (i := 8) (oi := ⟨some 45, .buildSlice 30 1 #[(0, .tmp 44)], _, _, _, _⟩) rfl (by kernel_rfl) (fun K hK => ?_)
              go_simp
              have HM7 := Aside.mk (HM6.out.below ((Below.refl w6.heap.size w6).alloc (Nat.le_refl _) (.cells #[.int .i64 x0] 3)))
              have HX7 := Aside.mk (heap_alloc_new w6 (.cells #[.int .i64 x0] 3))
              have k27 : (w6.alloc (.cells #[.int .i64 x0] 3)).cell? ⟨M, 2, none⟩ = some (.slice A9 n9 c9) := by obtain ⟨_, _, k, _, _⟩ := five HM7.out.box; exact k
              refine hK _ _ ⟨.inr k27, ?_⟩
              clear hK K
              try simp only [Act.put, List.setIfInBounds_toArray, List.set_cons_zero, List.set_cons_succ]
              refine wpAnyX_one (i := 9) (oi := ⟨some 46, .call { callee := .builtin .append, args := #[.tmp 42, .tmp 45], argTypes := #[30, 30] }, _, _, _, _⟩) rfl (by kernel_rfl) (fun K hK => ?_)
              refine step_append_lies (P := Tryz.prog) (w := w6.alloc (.cells #[.int .i64 x0] 3)) (by rfl) _ _ _ (by rfl) lo 3 ii _ 1 8 Tryz.underlying30 hii hiz his hib rfl (by decide) (.slice A9 n9 c9) ((cs ++ ac) ++ cutsOf b i).length (ints ((cs ++ ac) ++ cutsOf b i)) (by rfl) HM7.out.oc ⟨_, 0, none⟩ 1 1 [.int .i64 x0] (by rfl) (by rfl) (World.news_of_block HX7.out) (by simp [Value.oneCell']) (by decide) (by simp only [maxLen]; have := HLc.out; omega) (by have := HLc.out; omega) HM7.out.size _ rfl ?_
              intro g cap w8 hown hg hat hlt8
              have hm8 : Moved (w6.alloc (.cells #[.int .i64 x0] 3)) (.slice A9 n9 c9) (.slice (some ⟨g, 0, none⟩) (((cs ++ ac) ++ cutsOf b i).length + 1) cap) := by
                rcases hat with e | e
                · exact .inl e.symm
                · exact .inr ⟨g, rfl, by omega⟩
              obtain ⟨hbox8, hm8'⟩ := HM7.out.cut x0 hown hg hm8
              have HM8 := Aside.mk hm8'
              obtain ⟨_, _, k28, _, _⟩ := five hbox8
              have f28 := (store_at hbox8 2 (show 2 < 5 by decide)).2.1
              generalize hLN : ((cs ++ ac) ++ cutsOf b i).length + 1 = LN at *
              clear hLN hown hg hat hlt8 hm8 hm8'
              refine hK _ _ ⟨.inr k28, ?_⟩
              clear hK K
              try simp only [Act.put, List.setIfInBounds_toArray, List.set_cons_zero, List.set_cons_succ]
              refine wpAnyX_one (i := 10) (oi := ⟨some 47, .nilCheck (.tmp 37), _, _, _, _⟩) rfl (by kernel_rfl) (fun K hK => ?_)
              go_simp
              refine hK _ _ ⟨.inr k28, ?_⟩
              clear hK K
              try simp only [Act.put, List.setIfInBounds_toArray, List.set_cons_zero, List.set_cons_succ]
              refine wpAnyX_one (i := 11) (oi := ⟨some 48, .fieldAddr 96 (.tmp 47) 0, _, _, _, _⟩) rfl (by kernel_rfl) (fun K hK => ?_)
              go_simp
              refine hK _ _ ⟨.inr k28, ?_⟩
              clear hK K
              try simp only [Act.put, List.setIfInBounds_toArray, List.set_cons_zero, List.set_cons_succ]
              refine wpAnyX_one (i := 12) (oi := ⟨some 49, .fieldAddr 33 (.tmp 48) 2, _, _, _, _⟩) rfl (by kernel_rfl) (fun K hK => ?_)
              go_simp
              refine hK _ _ ⟨.inr k28, ?_⟩
              clear hK K
              try simp only [Act.put, List.setIfInBounds_toArray, List.set_cons_zero, List.set_cons_succ]
              refine wpAnyX_one (i := 13) (oi := ⟨none, .store 30 (.tmp 49) (.tmp 46), _, _, _, _⟩) rfl (by kernel_rfl) (fun K hK => ?_)
              go_simp
              refine hK _ _ ⟨.inl rfl, ?_⟩
              clear hK K
              try simp only [Act.put, List.setIfInBounds_toArray, List.set_cons_zero, List.set_cons_succ]
              refine wpAnyX_done (by kernel_rfl) ?_ _
              have HM9 := HM8
              rw [List.append_assoc, show cutsOf b i ++ [x0] = cutsOf b (i + 1) by rw [cutsOf_succ, HX0.out]] at HM9
              clear HM8 HM7 HM6 HMd HMI HX7 hbox8 k28 f28 k27 k26 k2d
              generalize w8.setCell ⟨M, 2, none⟩ (.slice (some ⟨g, 0, none⟩) LN cap) = w9 at *
              generalize hcvn : (Value.slice (some ⟨g, 0, none⟩) LN cap) = cv9 at *
              have k3d : w9.drew.cell? ⟨M, 3, none⟩ = some (.slice A8 n8 c8) := by obtain ⟨_, _, _, k, _⟩ := five HM9.out.box; exact k
              have HMd := Aside.mk (HM9.out.below (bdrew1 (Below.refl _ _)))
              clear HM9 hcvn
              go_wp2_with fail
              go_upto_region 10 with (fail)
              refine wp_region_X 19 (fun w' => w'.cell? ⟨M, 3, none⟩ = some (.slice A8 n8 c8)) (by kernel_rfl) ?_
              refine wpAnyX_take (i := 0) (oi := ⟨some 50, .move (.tmp 0), _, _, _, _⟩) (v := .pointer (some ⟨M, 0, none⟩)) rfl (by kernel_rfl) (by kernel_rfl) (by kernel_rfl) (by kernel_rfl) (fun _ _ _ h => h) (Or.inl ⟨by rfl, ?_⟩) k3d ?_
              · intro w' hSw
                first | (go_simp; done) | (go_simp; rfl) | (go_simp; exact Go.IntWalk.i64_in _ (by omega)) | (go_simp; simp only [*])
              simp only [Act.put, List.setIfInBounds_toArray, List.set_cons_zero, List.set_cons_succ]
              refine wpAnyX_take (i := 1) (oi := ⟨some 51, .move (.tmp 0), _, _, _, _⟩) (v := .pointer (some ⟨M, 0, none⟩)) rfl (by kernel_rfl) (by kernel_rfl) (by kernel_rfl) (by kernel_rfl) (fun _ _ _ h => h) (Or.inl ⟨by rfl, ?_⟩) k3d ?_
              · intro w' hSw
                first | (go_simp; done) | (go_simp; rfl) | (go_simp; exact Go.IntWalk.i64_in _ (by omega)) | (go_simp; simp only [*])
              simp only [Act.put, List.setIfInBounds_toArray, List.set_cons_zero, List.set_cons_succ]
              refine wpAnyX_take (i := 2) (oi := ⟨some 52, .nilCheck (.tmp 51), _, _, _, _⟩) (v := .pointer (some ⟨M, 0, none⟩)) rfl (by kernel_rfl) (by kernel_rfl) (by kernel_rfl) (by kernel_rfl) (fun _ _ _ h => h) (Or.inl ⟨by rfl, ?_⟩) k3d ?_
              · intro w' hSw
                first | (go_simp; done) | (go_simp; rfl) | (go_simp; exact Go.IntWalk.i64_in _ (by omega)) | (go_simp; simp only [*])
              simp only [Act.put, List.setIfInBounds_toArray, List.set_cons_zero, List.set_cons_succ]
              refine wpAnyX_take (i := 3) (oi := ⟨some 53, .fieldAddr 96 (.tmp 52) 0, _, _, _, _⟩) (v := .pointer (some ⟨M, 0, none⟩)) rfl (by kernel_rfl) (by kernel_rfl) (by kernel_rfl) (by kernel_rfl) (fun _ _ _ h => h) (Or.inl ⟨by rfl, ?_⟩) k3d ?_
              · intro w' hSw
                first | (go_simp; done) | (go_simp; rfl) | (go_simp; exact Go.IntWalk.i64_in _ (by omega)) | (go_simp; simp only [*])
              simp only [Act.put, List.setIfInBounds_toArray, List.set_cons_zero, List.set_cons_succ]
              refine wpAnyX_take (i := 4) (oi := ⟨some 54, .fieldAddr 33 (.tmp 53) 3, _, _, _, _⟩) (v := .pointer (some ⟨M, 3, none⟩)) rfl (by kernel_rfl) (by kernel_rfl) (by kernel_rfl) (by kernel_rfl) (fun _ _ _ h => h) (Or.inl ⟨by rfl, ?_⟩) k3d ?_
              · intro w' hSw
                first | (go_simp; done) | (go_simp; rfl) | (go_simp; exact Go.IntWalk.i64_in _ (by omega)) | (go_simp; simp only [*])
              simp only [Act.put, List.setIfInBounds_toArray, List.set_cons_zero, List.set_cons_succ]
              refine wpAnyX_take (i := 5) (oi := ⟨some 55, .load 31 (.tmp 54), _, _, _, _⟩) (v := .slice A8 n8 c8) rfl (by kernel_rfl) (by kernel_rfl) (by kernel_rfl) (by kernel_rfl) (fun _ _ _ h => h) (Or.inl ⟨by rfl, ?_⟩) k3d ?_
              · intro w' hSw
                first | (go_simp; done) | (go_simp; rfl) | (go_simp; exact Go.IntWalk.i64_in _ (by omega)) | (go_simp; simp only [*])
              simp only [Act.put, List.setIfInBounds_toArray, List.set_cons_zero, List.set_cons_succ]
              refine wpAnyX_take (i := 6) (oi := ⟨some 56, .move (.tmp 10), _, _, _, _⟩) (v := .slice (some ⟨bb, bo + 16 * i, none⟩) (b.length - 16 * i) (c5 - 16 * i)) rfl (by kernel_rfl) (by kernel_rfl) (by kernel_rfl) (by kernel_rfl) (fun _ _ _ h => h) (Or.inl ⟨by rfl, ?_⟩) k3d ?_
              · intro w' hSw
                first | (go_simp; done) | (go_simp; rfl) | (go_simp; exact Go.IntWalk.i64_in _ (by omega)) | (go_simp; simp only [*])
              simp only [Act.put, List.setIfInBounds_toArray, List.set_cons_zero, List.set_cons_succ]
              refine wpAnyX_take (i := 8) (oi := ⟨some 58, .move (.tmp 10), _, _, _, _⟩) (v := .slice (some ⟨bb, bo + 16 * i, none⟩) (b.length - 16 * i) (c5 - 16 * i)) rfl (by kernel_rfl) (by kernel_rfl) (by kernel_rfl) (by kernel_rfl) (fun _ _ _ h => h) (Or.inl ⟨by rfl, ?_⟩) k3d ?_
              · intro w' hSw
                first | (go_simp; done) | (go_simp; rfl) | (go_simp; exact Go.IntWalk.i64_in _ (by omega)) | (go_simp; simp only [*])
              simp only [Act.put, List.setIfInBounds_toArray, List.set_cons_zero, List.set_cons_succ]
              refine wpAnyX_take (i := 11) (oi := ⟨some 61, .move (.tmp 10), _, _, _, _⟩) (v := .slice (some ⟨bb, bo + 16 * i, none⟩) (b.length - 16 * i) (c5 - 16 * i)) rfl (by kernel_rfl) (by kernel_rfl) (by kernel_rfl) (by kernel_rfl) (fun _ _ _ h => h) (Or.inl ⟨by rfl, ?_⟩) k3d ?_
              · intro w' hSw
                first | (go_simp; done) | (go_simp; rfl) | (go_simp; exact Go.IntWalk.i64_in _ (by omega)) | (go_simp; simp only [*])
              simp only [Act.put, List.setIfInBounds_toArray, List.set_cons_zero, List.set_cons_succ]
              refine wpAnyX_one (i := 7) (oi := ⟨some 57, .call { callee := .value (.func 59), args := #[.tmp 56, .const (.int .i64 1)], argTypes := #[44, 3] }, _, _, _, _⟩) rfl (by kernel_rfl) (fun K hK => ?_)
              go_simp
              refine (number_at (z := 1) (x := x1) 1 (sl_far HOk.out Hbel2.out HMd.out.bel HSd.out) rfl (by decide) h16 HX1.out.symm).mono ?_
              rintro e wa ⟨rfl, B6⟩
              have HMa := Aside.mk (HMd.out.below B6)
              have k3a : wa.cell? ⟨M, 3, none⟩ = some (.slice A8 n8 c8) := bcell B6 k3d
              clear B6
              refine hK _ _ ⟨.inr k3a, ?_⟩
              clear hK K
              try simp only [Act.put, List.setIfInBounds_toArray, List.set_cons_zero, List.set_cons_succ]
              refine wpAnyX_one (i := 9) (oi := ⟨some 59, .call { callee := .value (.func 59), args := #[.tmp 58, .const (.int .i64 2)], argTypes := #[44, 3] }, _, _, _, _⟩) rfl (by kernel_rfl) (fun K hK => ?_)
              go_simp
              refine (number_at (z := 2) (x := x2) 2 (sl_far HOk.out Hbel2.out HMa.out.bel HSd.out) rfl (by decide) h16 HX2.out.symm).mono ?_
              rintro e wb ⟨rfl, B6⟩
              have HMb := Aside.mk (HMa.out.below B6)
              have k3b : wb.cell? ⟨M, 3, none⟩ = some (.slice A8 n8 c8) := bcell B6 k3a
              clear B6
              have hw32 : IntKind.u32.wrap x2 = x2 := Go.IntWalk.u32_in _ HXR.out
              refine hK _ _ ⟨.inr k3b, ?_⟩
              clear hK K
              try simp only [Act.put, List.setIfInBounds_toArray, List.set_cons_zero, List.set_cons_succ]
              refine wpAnyX_take (i := 10) (oi := ⟨some 60, .convert 3 52 (.tmp 59), _, _, _, _⟩) (v := .int .u32 x2) rfl (by kernel_rfl) (by kernel_rfl) (by kernel_rfl) (by kernel_rfl) (fun _ _ _ h => h) (Or.inl ⟨by rfl, ?_⟩) k3b ?_
              · intro w' hSw
                first | (go_simp; done) | (go_simp; rfl) | (go_simp; exact Go.IntWalk.i64_in _ (by omega)) | (go_simp; simp only [*])
              simp only [Act.put, List.setIfInBounds_toArray, List.set_cons_zero, List.set_cons_succ]
              refine wpAnyX_one (i := 12) (oi := ⟨some 62, .call { callee := .value (.func 59), args := #[.tmp 61, .const (.int .i64 3)], argTypes := #[44, 3] }, _, _, _, _⟩) rfl (by kernel_rfl) (fun K hK => ?_)
              go_simp
              refine (number_at (z := 3) (x := x3) 3 (sl_far HOk.out Hbel2.out HMb.out.bel HSd.out) rfl (by decide) h16 HX3.out.symm).mono ?_
              rintro e wc ⟨rfl, B6⟩
              have HMc := Aside.mk (HMb.out.below B6)
              have k3c : wc.cell? ⟨M, 3, none⟩ = some (.slice A8 n8 c8) := bcell B6 k3b
              clear B6
              refine hK _ _ ⟨.inr k3c, ?_⟩
              clear hK K
              try simp only [Act.put, List.setIfInBounds_toArray, List.set_cons_zero, List.set_cons_succ]
              refine wpAnyX_one (i := 13) (oi := ⟨some 63, .build 54 #[(0, .tmp 57), (1, .tmp 60), (2, .tmp 62)], _, _, _, _⟩) rfl (by kernel_rfl) (fun K hK => ?_)
              go_simp
              refine hK _ _ ⟨.inr k3c, ?_⟩
              clear hK K
              try simp only [Act.put, List.setIfInBounds_toArray, List.set_cons_zero, List.set_cons_succ]
              refine wpAnyX_one (i := 14) (oi := ⟨some 64, .buildSlice 31 1 #[(0, .tmp 63)], _, _, _, _⟩) rfl (by kernel_rfl) (fun K hK => ?_)
              go_simp
              have HM7 := Aside.mk (HMc.out.below ((Below.refl wc.heap.size wc).alloc (Nat.le_refl _) (.cells #[.int .i64 x1, .int .u32 x2, .int .i64 x3] 54)))
              have HX7 := Aside.mk (heap_alloc_new wc (.cells #[.int .i64 x1, .int .u32 x2, .int .i64 x3] 54))
              have k37 : (wc.alloc (.cells #[.int .i64 x1, .int .u32 x2, .int .i64 x3] 54)).cell? ⟨M, 3, none⟩ = some (.slice A8 n8 c8) := by obtain ⟨_, _, _, k, _⟩ := five HM7.out.box; exact k
              refine hK _ _ ⟨.inr k37, ?_⟩
              clear hK K
              try simp only [Act.put, List.setIfInBounds_toArray, List.set_cons_zero, List.set_cons_succ]
              refine wpAnyX_one (i := 15) (oi := ⟨some 65, .call { callee := .builtin .append, args := #[.tmp 55, .tmp 64], argTypes := #[31, 31] }, _, _, _, _⟩) rfl (by kernel_rfl) (fun K hK => ?_)
              refine step_append_lies (P := Tryz.prog) (w := wc.alloc (.cells #[.int .i64 x1, .int .u32 x2, .int .i64 x3] 54)) (by rfl) _ _ _ (by rfl) lo 54 fi _ 3 24 Tryz.underlying31 hfi hfz hfs hfb rfl (by decide) (.slice A8 n8 c8) ((ss ++ az) ++ infosOf b i).length (infoCells ((ss ++ az) ++ infosOf b i)) (by rfl) HM7.out.os ⟨_, 0, none⟩ 1 1 [.int .i64 x1, .int .u32 x2, .int .i64 x3] (by rfl) (by rfl) (World.news_of_block HX7.out) (by simp [Value.oneCell']) (by decide) (by simp only [maxLen]; have := HLc.out; omega) (by have := HLc.out; omega) HM7.out.size _ rfl ?_
              intro g2 cap2 w8' hown hg hat hlt8
              have hm8 : Moved (wc.alloc (.cells #[.int .i64 x1, .int .u32 x2, .int .i64 x3] 54)) (.slice A8 n8 c8) (.slice (some ⟨g2, 0, none⟩) (((ss ++ az) ++ infosOf b i).length + 1) cap2) := by
                rcases hat with e | e
                · exact .inl e.symm
                · exact .inr ⟨g2, rfl, by omega⟩
              obtain ⟨hbox8, hm8'⟩ := HM7.out.shard ⟨x1, UInt32.ofNat x2.toNat, x3⟩ (by show World.ownsRow _ _ _ _ _ _ (_ ++ [.int .i64 x1, .int .u32 ((UInt32.ofNat x2.toNat).toNat : Int), .int .i64 x3]); rw [HSUM.out]; exact hown) hg hm8
              have HM8 := Aside.mk hm8'
              obtain ⟨_, _, _, k38, _⟩ := five hbox8
              have f38 := (store_at hbox8 3 (show 3 < 5 by decide)).2.1
              generalize hLN : ((ss ++ az) ++ infosOf b i).length + 1 = LN2 at *
              clear hLN hown hg hat hlt8 hm8 hm8'
              refine hK _ _ ⟨.inr k38, ?_⟩
              clear hK K
              try simp only [Act.put, List.setIfInBounds_toArray, List.set_cons_zero, List.set_cons_succ]
              refine wpAnyX_one (i := 16) (oi := ⟨some 66, .nilCheck (.tmp 50), _, _, _, _⟩) rfl (by kernel_rfl) (fun K hK => ?_)
              go_simp
              refine hK _ _ ⟨.inr k38, ?_⟩
              clear hK K
              try simp only [Act.put, List.setIfInBounds_toArray, List.set_cons_zero, List.set_cons_succ]
              refine wpAnyX_one (i := 17) (oi := ⟨some 67, .fieldAddr 96 (.tmp 66) 0, _, _, _, _⟩) rfl (by kernel_rfl) (fun K hK => ?_)
              go_simp
              refine hK _ _ ⟨.inr k38, ?_⟩
              clear hK K
              try simp only [Act.put, List.setIfInBounds_toArray, List.set_cons_zero, List.set_cons_succ]
              refine wpAnyX_one (i := 18) (oi := ⟨some 68, .fieldAddr 33 (.tmp 67) 3, _, _, _, _⟩) rfl (by kernel_rfl) (fun K hK => ?_)
              go_simp
              refine hK _ _ ⟨.inr k38, ?_⟩
              clear hK K
              try simp only [Act.put, List.setIfInBounds_toArray, List.set_cons_zero, List.set_cons_succ]
              refine wpAnyX_one (i := 19) (oi := ⟨none, .store 31 (.tmp 68) (.tmp 65), _, _, _, _⟩) rfl (by kernel_rfl) (fun K hK => ?_)
              go_simp
              refine hK _ _ ⟨.inl rfl, ?_⟩
              clear hK K
              try simp only [Act.put, List.setIfInBounds_toArray, List.set_cons_zero, List.set_cons_succ]
              refine wpAnyX_done (by kernel_rfl) ?_ _
              have HM9 := HM8
              rw [← HINF.out, List.append_assoc (ss ++ az), ← infosOf_succ] at HM9
              clear HM8
              go_wp2_with fail
              go_roundg (mk - (i + 1))
              case measure => exact hM.out.1
              case rel => exact ⟨i + 1, _, _, ⟨hM.out.2⟩, by go_num, HM9⟩
            · have hie : i = mk := by have := HI.out; omega
              subst hie
              have HDr : Aside (∀ W, Below lo w0 W → Sl (kslice kbyte) W ok (.slice (some ⟨bd, od + 1, none⟩) r.length (c2 - 1)) r) := ⟨fun W hW => by
                have h1 := Sl.drop (i := 1) (HDt.out W hW) (by simp)
                simpa [kslice] using h1⟩
              have HMr : Aside (MI lo w0 w2 M gen n cv sv dv (cs ++ (ac ++ cutsOf b i)) (ss ++ (az ++ infosOf b i)) ds) := ⟨by rw [← List.append_assoc, ← List.append_assoc]; exact HMI.out⟩
              have HFr : Aside (shF k data = (shF (k' - i) r).map fun q => ((ac ++ cutsOf b i) ++ q.1, (az ++ infosOf b i) ++ q.2.1, q.2.2)) := ⟨by
                rw [HF.out, HStep.out]
                cases shF (k' - i) r <;> simp⟩
              have HLr : Aside ((ac ++ cutsOf b i).length + (k' - i) = k ∧ (az ++ infosOf b i).length = (ac ++ cutsOf b i).length) := ⟨by
                have := HLa.out
                simp only [List.length_append, cutsOf_length, infosOf_length]
                omega⟩
              have hst : min (k' : Int) 50 = (i : Int) := hmin
              have hki : (0 : Int) ≤ (k' : Int) - (i : Int) := by omega
              have hki2 : (k' : Int) - (i : Int) ≤ 9223372036854775807 := by have := HLa.out; omega
              have hkc : ((k' - i : Nat) : Int) = (k' : Int) - (i : Int) := by omega
              have hMl : k' - i < k' := by omega
              have HKc := Aside.mk hkc
              clear hkc
              by_cases hc1 : c2 = 1
              · subst hc1
                have hr : r = [] := List.eq_nil_of_length_eq_zero (by have h := hc2; simp only [List.length_cons] at h; omega)
                subst hr
                have HDr1 : Aside (∀ W, Below lo w0 W → Sl (kslice kbyte) W ok (.slice (some ⟨bd, od, none⟩) 0 0) []) := ⟨fun W _ => ⟨_, 0, rfl, Nat.le_refl _, by decide, fun h => absurd h (Nat.lt_irrefl 0)⟩⟩
                go_wp2_with fail
                go_region
                all_goals go_wp2_with fail
                all_goals go_roundg (k' - i)
                case measure => have := HK.out; omega
                case rel => exact ⟨k' - i, [], cv, sv, ac ++ cutsOf b i, az ++ infosOf b i, ⟨rfl⟩, by rw [HKc.out], HDr1, ⟨HMr.out.below (bdrew1 (Below.refl _ _))⟩, HFr, HLr⟩
              · go_wp2_with fail
                go_region
                all_goals go_wp2_with fail
                all_goals go_roundg (k' - i)
                case measure => have := HK.out; omega
                case rel => exact ⟨k' - i, r, cv, sv, ac ++ cutsOf b i, az ++ infosOf b i, ⟨rfl⟩, by rw [HKc.out], HDr, ⟨HMr.out.below (bdrew1 (Below.refl _ _))⟩, HFr, HLr⟩
        · have hno : shF k data = none := by rw [HF.out, shF, if_neg (by omega), if_pos hlb]; rfl
          have HP : Aside (ShPost lo w0 M gen n ok dv cs ss ds k data (.returned (.tuple #[.slice none 0 0, .bool false])) wo) := ⟨⟨(fun c s r e => by rw [hno] at e; cases e), (fun _ => rfl), HMI.out.bel⟩⟩
          have hmm : min k' 50 ≤ 50 := Nat.min_le_right _ _
          have hne : ((b.length : Int) != 16 * ((min k' 50 : Nat) : Int)) = true := by simp; omega
          clear hno HF HMI
          generalize min k' 50 = mk at *
          go_wp2_with fail
          exact bodyPost_ret (by simp [results, Tryz.results60, go_sem]) rfl HP.out
    · have hk0' : k' = 0 := by omega
      subst hk0'
      have hsm : shF k data = some (ac, az, dat) := by
        rw [HF.out]
        cases dat <;> simp [shF]
      have HP : Aside (ShPost lo w0 M gen n ok dv cs ss ds k data (.returned (.tuple #[.slice A2 dat.length c2, .bool true])) wo) := ⟨⟨(fun c s r e => by rw [hsm] at e; cases e; exact ⟨_, cv, sv, rfl, HDt.out, HMI.out⟩), (fun e => by rw [hsm] at e; cases e), HMI.out.bel⟩⟩
      clear hsm HF HMI hk0
      go_wp2_with fail
      exact bodyPost_ret (by simp [results, Tryz.results60, go_sem]) rfl HP.out
end Go.Proofs.YtgbladpoglhleaaGreatDoor
