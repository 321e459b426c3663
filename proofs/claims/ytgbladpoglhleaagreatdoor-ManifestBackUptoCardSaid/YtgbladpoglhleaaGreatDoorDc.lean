/- manifest.Decode walked. No condition. -/
import Derived.Test.YtgbladpoglhleaaGreatDoorDk
import Derived.Test.YtgbladpoglhleaaGreatDoorAq
import Derived.Test.YtgbladpoglhleaaGreatDoorEq1
namespace Go.Proofs.YtgbladpoglhleaaGreatDoor
open Go.RowKit
/-- A manifest whose three lists are the call's own, each in a block of its own. -/
def OM (lo : Nat) (W : World) (v : Value) (m : Man) : Prop :=
  ∃ cv sv dv, v = .agg #[.int .i64 m.Gen, .int .i64 m.N, cv, sv, dv] ∧ W.ownsRow lo 3 1 cv m.Cuts.length (ints m.Cuts) ∧ W.ownsRow lo 54 3 sv m.Shards.length (infoCells m.Shards) ∧ W.ownsRow lo 3 1 dv m.Degrees.length (ints m.Degrees) ∧
    (∀ q, cv.ownBlock = some q → sv.ownBlock ≠ some q) ∧ (∀ q, cv.ownBlock = some q → dv.ownBlock ≠ some q) ∧ (∀ q, sv.ownBlock = some q → dv.ownBlock ≠ some q)
def zMan : Value := .agg #[.int .i64 0, .int .i64 0, .slice none 0 0, .slice none 0 0, .slice none 0 0]
def DecPost (w : World) (head : List UInt8) (data : List (List UInt8)) (e : Ending) (w' : World) : Prop :=
  (∀ m, decM head data = some m → ∃ v, e = .returned (.tuple #[v, .int .i64 0]) ∧ OM w.heap.size w' v m) ∧ (decM head data = none → e = .returned (.tuple #[zMan, .int .i64 90])) ∧ Below w.heap.size w w'
theorem dec_no {w w' : World} {head : List UInt8} {data : List (List UInt8)} (h : decM head data = none) (hb : Below w.heap.size w w') : DecPost w head data (.returned (.tuple #[zMan, .int .i64 90])) w' :=
  ⟨(fun m e => by rw [h] at e; cases e), fun _ => rfl, hb⟩
theorem dec_short {head : List UInt8} {data : List (List UInt8)} (h : ¬ (head.length = 12 ∧ numAt head 8 ≤ 1000)) : decM head data = none := by
  unfold decM collect
  rw [if_neg h]; rfl
theorem dec_sh {head : List UInt8} {data : List (List UInt8)} (h : shF (numAt head 8).toNat data = none) : decM head data = none := by
  unfold decM collect
  split
  · rw [h]; rfl
  · rfl
theorem dec_deg {head : List UInt8} {data : List (List UInt8)} {c : List Int} {s : List Info} {r : List (List UInt8)} (h : shF (numAt head 8).toNat data = some (c, s, r)) (h2 : degF r = none) : decM head data = none := by
  unfold decM collect
  split
  · rw [h]
    simp only [Option.bind_some]
    rw [h2]; rfl
  · rfl
theorem col_all {head : List UInt8} {data : List (List UInt8)} {c : List Int} {s : List Info} {r : List (List UInt8)} {ds : List Int} (h0 : head.length = 12 ∧ numAt head 8 ≤ 1000) (h : shF (numAt head 8).toNat data = some (c, s, r)) (h2 : degF r = some ds) :
    collect head data = some ⟨numAt head 0, numAt head 4, c, s, ds⟩ := by
  unfold collect
  rw [if_pos h0, h, Option.bind_some, h2, Option.map_some]
theorem dec_not {head : List UInt8} {data : List (List UInt8)} {M : Man} (h : collect head data = some M) (hn : ¬ (mayF M = true ∧ headM M = head ∧ dataM M = data)) : decM head data = none := by
  cases hd : decM head data with
  | none => rfl
  | some m =>
    obtain ⟨h1, h2, h3⟩ := decM_iff.1 hd
    have hc := collect_enc h1
    rw [h2, h3, h] at hc
    exact absurd ⟨Option.some.inj hc ▸ h1, Option.some.inj hc ▸ h2, Option.some.inj hc ▸ h3⟩ hn
theorem number_lit {w : World} {ok : Nat → Prop} {v : Value} {bs : List UInt8} {z x : Int} (j : Nat) (hs : Sl kbyte w ok v bs) (hz : z = (j : Int)) (hj : j < 4) (hl : 4 * j + 4 ≤ bs.length) (hx : numAt bs (4 * j) = x) :
    Calls Tryz.prog 59 #[v, .int .i64 z] w fun e w' => e = .returned (.int .i64 x) ∧ Below w.heap.size w w' := by
  subst hz
  refine (number_any j hs hj hl).mono ?_
  rintro e w' ⟨h1, h2⟩
  rw [hx] at h1
  exact ⟨h1, h2⟩
theorem results_row_tmp {P : Program} {fn : Func} {p u : Tmp} {ty : TypeId} (h : fn.results = #[.cell p ty, .tmp u]) (tmps : Array Value) (w : World) (g : Nat) (t : TypeId) (cs : Array Value) (fr : Nat × Nat) (d : TypeDesc)
    (hp : tmps.getD p undef = .pointer (some ⟨g, 0, none⟩)) (hg : w.heap[g]? = some (.cells cs t fr))
    (hu : P.underlying ty = some d) (hd : (match d with | .struct _ | .array _ _ => true | _ => false) = true) (hi : (P.info? ty).map (·.size) = some cs.size) {x : Value} (hx : tmps.getD u undef = x) :
    (results fn tmps).run P w = .ok (.tuple #[.agg cs, x]) w := by
  have hp' : tmps[p]?.getD undef = .pointer (some ⟨g, 0, none⟩) := by simpa using hp
  have hx' : tmps[u]?.getD undef = x := by simpa using hx
  simp [results, h, hp', asAddr, run_loadVar_row w g t ty cs fr d hg hu hd hi, hx']
section
open Go
variable {P : Program} {ops : Array Oper} {Q : Exit → Act → World → Prop} {md : Region.Mode} {S : World → Prop}
/-- One alone may come up. -/
theorem wpAnyH_one {i : Nat} {oi : Oper} {fuel : Nat} {listed : Array Bool} {a : Act} {w : World} (hi : ops[i]? = some oi) (hr : Region.ready md ops listed = [i])
    (h : ∀ K' : Act → World → Prop, (∀ a w, S w ∧ wpAnyH P md ops Q S fuel (listed.setIfInBounds i true) a w → K' a w) → if Region.wanted oi (yielded ops a.tmps) = true then Oper.wp P oi a w K' Q else K' (a.put oi.dst undef) w) :
    wpAnyH P md ops Q S (fuel + 1) listed a w :=
  wpAnyH_all hr (by simp) fun j hj => by
    obtain rfl := List.mem_singleton.1 hj
    exact wpOp_step hi fun K' hK => h K' hK
theorem wp_region_H {id : Nat} {a : Act} {w : World} (S : World → Prop) (hm : P.follows .mixedOrders = true)
    (h : wpAnyH P .any ops Q S ops.size (Array.replicate ops.size false) a w.drew) : (Code.region id ops true).wp P Q a w :=
  wp_region_held hm h
theorem exec_load_mid {op : Oper} {ev : Operand → Value} {w : World} (ty : TypeId) (x : Operand) (ho : op.op = .load ty x) (b o : Nat) (hx : ev x = .pointer (some ⟨b, o, none⟩)) (cs : List Value) (d : TypeDesc) (hc : w.rangeAt b o cs)
    (hu : P.underlying ty = some d) (hd : d.isRow = true) (hi : (P.info? ty).map (·.size) = some cs.length) : (execOp ev op).run P w = .ok (.value (.agg cs.toArray)) w := by
  unfold execOp
  simp only [ho, hx, Instr.loadAt, Instr.sureAddr, Sem.run_bind, Sem.run_pure, Result.andThen_ok, run_loadVar_mid w b o ty cs d hc hu hd hi]
end
theorem sl_range {w : World} {ok : Nat → Prop} {b o n c : Nat} {xs : List UInt8} (h : Sl kbyte w ok (.slice (some ⟨b, o, none⟩) n c) xs) : w.rangeAt b o (u8s xs) := fun j v hj => by
  unfold u8s at hj
  rw [List.getElem?_map] at hj
  cases hx : xs[j]? with
  | none => rw [hx] at hj; cases hj
  | some x =>
    rw [hx] at hj
    cases hj
    obtain ⟨hl, rfl⟩ := List.getElem?_eq_some_iff.1 hx
    obtain ⟨b', o', e, k⟩ := h.byte j hl
    cases e
    exact k
theorem frz5 {W : World} {R : Nat} {a b c d e : Value} {t : TypeId} (h : W.heap[R]? = some (.cells #[a, b, c, d, e] t (0, 0))) :
    W.frozen? ⟨R, 0, none⟩ = false ∧ W.frozen? ⟨R, 1, none⟩ = false ∧ W.frozen? ⟨R, 2, none⟩ = false ∧ W.frozen? ⟨R, 3, none⟩ = false ∧ W.frozen? ⟨R, 4, none⟩ = false :=
  ⟨(store_at h 0 (show 0 < 5 by decide)).2.1, (store_at h 1 (show 1 < 5 by decide)).2.1, (store_at h 2 (show 2 < 5 by decide)).2.1, (store_at h 3 (show 3 < 5 by decide)).2.1, (store_at h 4 (show 4 < 5 by decide)).2.1⟩
theorem st5_below {lo : Nat} {w W : World} {R : Nat} {a b c d e : Value} (h : Below lo w W) (hR : lo ≤ R) : Below lo w (st5 W R a b c d e) := by
  unfold st5
  exact ((((h.setCell hR _).setCell hR _).setCell hR _).setCell hR _).setCell hR _
theorem shF_sum : ∀ (data : List (List UInt8)) (k : Nat) (c : List Int) (s : List Info) (r : List (List UInt8)), shF k data = some (c, s, r) → sumL r ≤ sumL data ∧ c.length = k ∧ s.length = k
  | [], k, c, s, r, h => by
    rw [shF] at h
    split at h
    · cases h; simp_all
    · cases h
  | b :: l, k, c, s, r, h => by
    rw [shF] at h
    split at h
    · cases h; simp_all
    · split at h
      · cases h
      · cases hq : shF (k - min k 50) l with
        | none => rw [hq] at h; cases h
        | some q =>
          obtain ⟨c', s', r'⟩ := q
          rw [hq] at h
          cases h
          obtain ⟨h1, h2, h3⟩ := shF_sum l _ _ _ _ hq
          simp only [sumL, List.map_cons, List.sum_cons] at h1 ⊢
          rw [List.length_append, List.length_append, cutsOf_length, infosOf_length]
          omega
theorem degF_len : ∀ (data : List (List UInt8)) (l : List Int), degF data = some l → l.length ≤ sumL data
  | [], l, h => by rw [degF] at h; cases h; simp
  | b :: r, l, h => by
    rw [degF] at h
    cases h1 : degFrame b with
    | none => rw [h1] at h; cases h
    | some l1 =>
      rw [h1] at h
      simp only [Option.bind_some] at h
      cases h2 : degF r with
      | none => rw [h2] at h; cases h
      | some l2 =>
        rw [h2] at h
        cases h
        have a := degFrame_len b.length b l1 (Nat.le_refl _) h1
        have b := degF_len r l2 h2
        simp only [sumL, List.map_cons, List.sum_cons, List.length_append] at *
        omega
theorem headM_len (m : Man) : (headM m).length = 12 := by unfold headM; rw [fours_length]; rfl
theorem range_same {w w' : World} {b o : Nat} {cs : List Value} (h : w.rangeAt b o cs) (hb : b < w.heap.size) (hB : Below w.heap.size w w') : w'.rangeAt b o cs := fun j v hj => (hB.cell hb).trans (h j v hj)
theorem own_at {w : World} {B n : Nat} {e : TypeId} {v : Value} {xs : List Value} (h : w.ownsRow B e 1 v n xs) (hn : 0 < n) : ∃ g cap, v = .slice (some ⟨g, 0, none⟩) n cap ∧ g < w.heap.size ∧ B ≤ g := by
  rcases h.2 with ⟨_, h0⟩ | ⟨g, cap, cur, rfl, hB, hg, _⟩
  · omega
  · exact ⟨g, cap, rfl, blk_lt hg, hB⟩
theorem MI.om {lo lo' : Nat} {w0 W W' : World} {M R : Nat} {gen n : Int} {cv sv dv a b c d e : Value} {cs : List Int} {ss : List Info} {ds : List Int} (h : MI lo w0 W M gen n cv sv dv cs ss ds) (hl : lo' ≤ lo) (hR : R < lo) (hW : W' = st5 W R a b c d e) :
    OM lo' W' (.agg #[.int .i64 gen, .int .i64 n, cv, sv, dv]) ⟨gen, n, cs, ss, ds⟩ := by
  subst hW
  exact ⟨cv, sv, dv, rfl, own_low (ownsRow_move h.oc fun q e => st5_heap (by have := (h.oc.lt q e).1; omega)) hl, own_low (ownsRow_move h.os fun q e => st5_heap (by have := (h.os.lt q e).1; omega)) hl, own_low (ownsRow_move h.od fun q e => st5_heap (by have := (h.od.lt q e).1; omega)) hl, h.ncs, h.ncd, h.nsd⟩
set_option maxHeartbeats 4000000 in
set_option maxRecDepth 100000 in
theorem decode_any {w : World} {ok : Nat → Prop} {hv dv : Value} {head : List UInt8} {data : List (List UInt8)} (hh : Sl kbyte w ok hv head) (hd : Sl (kslice kbyte) w ok dv data) (hs : sumL data ≤ 16777216) :
    Calls Tryz.prog 32 #[hv, dv] w (DecPost w head data) := by
  obtain ⟨Ah, ch, rfl, hch, hmh⟩ := hh.slice
  obtain ⟨Ad, cd, rfl, hcd, hmd⟩ := hd.slice
  have HH : Aside (∀ W, Below w.heap.size w W → Sl kbyte W (fun k => ok k ∧ k < w.heap.size) (.slice Ah head.length ch) head) := ⟨fun W hW => hh.bound.move fun k hk => hW.block k hk.2⟩
  have HD : Aside (∀ W, Below w.heap.size w W → Sl (kslice kbyte) W (fun k => ok k ∧ k < w.heap.size) (.slice Ad data.length cd) data) := ⟨fun W hW => hd.bound.move fun k hk => hW.block k hk.2⟩
  have HS := Aside.mk hs
  have HBa := Aside.mk ((Below.refl w.heap.size w).alloc (Nat.le_refl _) (.cells #[.int .i64 0, .int .i64 0, .slice none 0 0, .slice none 0 0, .slice none 0 0] 33))
  have HRa := Aside.mk (heap_alloc_new w (.cells #[.int .i64 0, .int .i64 0, .slice none 0 0, .slice none 0 0, .slice none 0 0] 33))
  clear hh hd hs
  by_cases h12 : head.length = 12
  · have hl1 : ((head.length : Int) != 12) = false := by simp [h12]
    have HL12 := Aside.mk h12
    obtain ⟨x2, hx2⟩ : ∃ x2, x2 = numAt head 8 := ⟨_, rfl⟩
    have HX2 := Aside.mk hx2
    clear h12 hx2
    go_enter Tryz.func32, Tryz.ntmps32
    go_wp2_with fail
    refine (number_lit (z := 2) (x := x2) 2 (HH.out _ HBa.out) rfl (by decide) (by have := HL12.out; omega) HX2.out.symm).mono ?_
    rintro e w1 ⟨rfl, B1⟩
    have HB1 := Aside.mk (bthen HBa.out HBa.out.size B1)
    have HR1 := Aside.mk (bblk B1 HRa.out)
    clear B1 HBa HRa
    by_cases hk : x2 ≤ 1000
    · have hx0 := numAt_in head 8
      rw [← HX2.out] at hx0
      obtain ⟨x0, hx0'⟩ : ∃ x0, x0 = numAt head 0 := ⟨_, rfl⟩
      obtain ⟨x1, hx1'⟩ : ∃ x1, x1 = numAt head 4 := ⟨_, rfl⟩
      have HX0 := Aside.mk hx0'
      have HX1 := Aside.mk hx1'
      have HXk := Aside.mk (And.intro hx0 hk)
      clear hx0' hx1' hx0
      go_wp2_with fail
      refine (number_lit (z := 0) (x := x0) 0 (HH.out _ HB1.out) rfl (by decide) (by have := HL12.out; omega) HX0.out.symm).mono ?_
      rintro e w2 ⟨rfl, B2⟩
      have HB2 := Aside.mk (bthen HB1.out HB1.out.size B2)
      have HR2 := Aside.mk (bblk B2 HR1.out)
      clear B2 HB1 HR1
      go_wp2_with fail
      refine (number_lit (z := 1) (x := x1) 1 (HH.out _ HB2.out) rfl (by decide) (by have := HL12.out; omega) HX1.out.symm).mono ?_
      rintro e w3 ⟨rfl, B3⟩
      have HB3 := Aside.mk (bthen HB2.out HB2.out.size B3)
      have HR3 := Aside.mk (bblk B3 HR2.out)
      clear B3 HB2 HR2
      have HM3 : Aside (MI w3.heap.size w3 (w3.alloc (.cells #[.int .i64 x0, .int .i64 x1, .slice none 0 0, .slice none 0 0, .slice none 0 0] 96)) w3.heap.size x0 x1 (.slice none 0 0) (.slice none 0 0) (.slice none 0 0) [] [] []) := ⟨
        ⟨(Below.refl _ _).alloc (Nat.le_refl _) _, by simp, Nat.le_refl _, heap_alloc_new _ _, World.ownsRow_nil _ _ _ _, World.ownsRow_nil _ _ _ _, World.ownsRow_nil _ _ _ _, by simp [Value.ownBlock], by simp [Value.ownBlock], by simp [Value.ownBlock], by simp [Value.ownBlock], by simp [Value.ownBlock], by simp [Value.ownBlock]⟩⟩
      have HRlt : Aside (w.heap.size < w3.heap.size) := ⟨blk_lt HR3.out⟩
      go_wp2_with fail
      refine (number_lit (z := 2) (x := x2) 2 (HH.out _ (HB3.out.alloc HB3.out.size _)) rfl (by decide) (by have := HL12.out; omega) HX2.out.symm).mono ?_
      rintro e w4 ⟨rfl, B4⟩
      have HM4 := Aside.mk (HM3.out.below B4)
      clear B4 HM3
      obtain ⟨kk, hkk⟩ : ∃ kk : Nat, x2 = (kk : Int) := ⟨x2.toNat, by have := HXk.out; omega⟩
      subst hkk
      have hk' : kk ≤ 1000 := by omega
      clear hk
      have HTn : Aside ((numAt head 8).toNat = kk) := ⟨by rw [← HX2.out]; rfl⟩
      have hcall := shards_any (ok := fun k => ok k ∧ k < w.heap.size) kk hk' HM4.out (fun W hW => HD.out W (bthen HB3.out HB3.out.size hW)) (fun q hq => by have := HRlt.out; omega) (by simp; omega) rfl
      go_wp2_with fail
      refine hcall.mono ?_
      clear hcall
      rintro e w5 ⟨hy, hn, B5⟩
      have HB5 := Aside.mk (bthen HB3.out HB3.out.size B5)
      have HR5 := Aside.mk ((B5.block _ HRlt.out).trans HR3.out)
      have HB5' := Aside.mk B5
      clear B5 HM4
      cases hsh : shF kk data with
      | none =>
        have e1 := hn hsh
        subst e1
        have HP := Aside.mk (dec_no (dec_sh (head := head) (by rw [HTn.out]; exact hsh)) (st5_below (a := .int .i64 0) (b := .int .i64 0) (c := .slice none 0 0) (d := .slice none 0 0) (e := .slice none 0 0) HB5.out (Nat.le_refl _)))
        obtain ⟨k0, k1, k2, k3, k4⟩ := five HR5.out
        obtain ⟨f0, f1, f2, f3, f4⟩ := frz5 HR5.out
        clear hy hn HH HD HS hsh
        go_wp2_with fail
        exact bodyPost_ret (results_row_tmp rfl _ _ _ _ _ _ _ (by rfl) (st5_row HR5.out) Tryz.underlying33 rfl (by kernel_rfl) (by rfl)) rfl HP.out
      | some q =>
        obtain ⟨c1, s1, r1⟩ := q
        obtain ⟨rv, cv, sv, e1, hr, hM⟩ := hy _ _ _ hsh
        subst e1
        have HSh := Aside.mk hsh
        have HM5 := Aside.mk hM
        obtain ⟨Ar, cr, rfl, _⟩ := (hr w5 HB5'.out).slice
        have HDr := Aside.mk hr
        clear hy hn hsh hM hr
        simp only [List.nil_append] at HM5
        have hsum := shF_sum _ _ _ _ _ HSh.out
        have HSum := Aside.mk hsum
        clear hsum
        have hcall := degrees_any HM5.out HDr.out (by have := HS.out; have := HSum.out.1; simp; omega)
        go_wp2_with fail
        refine hcall.mono ?_
        clear hcall
        rintro e w6 ⟨hy, hn, B6⟩
        have HB6 := Aside.mk (bthen HB3.out HB3.out.size B6)
        have HR6 := Aside.mk ((B6.block _ HRlt.out).trans HR3.out)
        have HB6' := Aside.mk B6
        clear B6 HM5 HB5 HR5 HB5'
        cases hdg : degF r1 with
        | none =>
          have e1 := hn hdg
          subst e1
          have HP := Aside.mk (dec_no (dec_deg (head := head) (by rw [HTn.out]; exact HSh.out) hdg) (st5_below (a := .int .i64 0) (b := .int .i64 0) (c := .slice none 0 0) (d := .slice none 0 0) (e := .slice none 0 0) HB6.out (Nat.le_refl _)))
          obtain ⟨k0, k1, k2, k3, k4⟩ := five HR6.out
          obtain ⟨f0, f1, f2, f3, f4⟩ := frz5 HR6.out
          clear hy hn HH HD HS hdg
          go_wp2_with fail
          exact bodyPost_ret (results_row_tmp rfl _ _ _ _ _ _ _ (by rfl) (st5_row HR6.out) Tryz.underlying33 rfl (by kernel_rfl) (by rfl)) rfl HP.out
        | some ds =>
          obtain ⟨e1, dv', hM⟩ := hy _ hdg
          subst e1
          simp only [List.nil_append] at hM
          have HM6 := Aside.mk hM
          have hcol := Aside.mk (col_all (head := head) (data := data) (by refine ⟨HL12.out, ?_⟩; have := HXk.out; rw [← HX2.out]; omega) (by rw [HTn.out]; exact HSh.out) hdg)
          rw [← HX0.out, ← HX1.out] at hcol
          have HDl := Aside.mk (degF_len _ _ hdg)
          obtain ⟨q0, q1, q2, q3, q4⟩ := five hM.box
          clear hy hn hdg hM
          go_wp2_with fail
          have HXm : Aside (ManV w6 (w3.heap.size ≤ ·) (.agg #[.int .i64 x0, .int .i64 x1, cv, sv, dv']) ⟨x0, x1, c1, s1, ds⟩) := ⟨cv, sv, dv', rfl, (own_ints HM6.out.oc).sl, (own_infos HM6.out.os).sl, (own_ints HM6.out.od).sl⟩
          refine (pencode_any HXm.out (by have := HSum.out; show c1.length ≤ _; omega) (by have := HSum.out; show s1.length ≤ _; omega) (by have := HSum.out; have := HDl.out; have := HS.out; show ds.length ≤ _; omega)).mono ?_
          rintro e w7 ⟨hy, hn, B7⟩
          clear HXm q0 q1 q2 q3 q4
          have HB7 := Aside.mk (bthen HB6.out HB6.out.size B7)
          have HR7 := Aside.mk (bblk B7 HR6.out)
          have HM7 := Aside.mk (HM6.out.below B7)
          clear HB6 HR6 HB6' HM6
          cases hm : mayF ⟨x0, x1, c1, s1, ds⟩ with
          | false =>
            have e1 := hn hm
            subst e1
            have HN := Aside.mk (dec_not hcol.out (fun h => absurd (hm.symm.trans h.1) (by decide)))
            have HRd : Aside (w7.drew.heap[w.heap.size]? = some (.cells #[.int .i64 0, .int .i64 0, .slice none 0 0, .slice none 0 0, .slice none 0 0] 33 (0, 0))) := ⟨HR7.out⟩
            have HBd := Aside.mk (bdrew1 HB7.out)
            clear hy hn HH HD HS hcol hm
            go_wp2_with fail
            go_upto_region 8 with (fail)
            refine wp_region_H (fun _ => True) (by kernel_rfl) ?_
            refine wpAnyH_take (i := 0) (oi := ⟨some 54, .move (.tmp 11), _, _, _, _⟩) (v := .int .i64 142) rfl (by kernel_rfl) (by kernel_rfl) (by kernel_rfl) (fun _ _ _ h => h) (Or.inl ⟨by rfl, ?_⟩) trivial ?_
            · intro w' hSw
              first | (go_simp; done) | (go_simp; rfl) | (go_simp; exact Go.IntWalk.i64_in _ (by omega)) | (go_simp; simp only [*])
            simp only [Act.put, List.setIfInBounds_toArray, List.set_cons_zero, List.set_cons_succ]
            refine wpAnyH_take (i := 1) (oi := ⟨some 55, .binOp BinOp.neq 36 (.tmp 54) (.const (.int .i64 0)) 36, _, _, _, _⟩) (v := .bool true) rfl (by kernel_rfl) (by kernel_rfl) (by kernel_rfl) (fun _ _ _ h => h) (Or.inl ⟨by rfl, ?_⟩) trivial ?_
            · intro w' hSw
              first | (go_simp; done) | (go_simp; rfl) | (go_simp; exact Go.IntWalk.i64_in _ (by omega)) | (go_simp; simp only [*])
            simp only [Act.put, List.setIfInBounds_toArray, List.set_cons_zero, List.set_cons_succ]
            refine wpAnyH_take (i := 2) (oi := ⟨some 56, .move (.tmp 55), _, _, _, _⟩) (v := .bool true) rfl (by kernel_rfl) (by kernel_rfl) (by kernel_rfl) (fun _ _ _ h => h) (Or.inl ⟨by rfl, ?_⟩) trivial ?_
            · intro w' hSw
              first | (go_simp; done) | (go_simp; rfl) | (go_simp; exact Go.IntWalk.i64_in _ (by omega)) | (go_simp; simp only [*])
            simp only [Act.put, List.setIfInBounds_toArray, List.set_cons_zero, List.set_cons_succ]
            refine wpAnyH_take (i := 3) (oi := ⟨some 57, .move (.tmp 9), _, _, _, _⟩) (v := undef) rfl (by kernel_rfl) (by kernel_rfl) (by kernel_rfl) (fun _ _ _ h => h) (Or.inr ⟨by rfl, rfl⟩) trivial ?_
            simp only [Act.put, List.setIfInBounds_toArray, List.set_cons_zero, List.set_cons_succ]
            refine wpAnyH_take (i := 4) (oi := ⟨some 58, .sliceToArrayPointer 100 (.tmp 57), _, _, _, _⟩) (v := undef) rfl (by kernel_rfl) (by kernel_rfl) (by kernel_rfl) (fun _ _ _ h => h) (Or.inr ⟨by rfl, rfl⟩) trivial ?_
            simp only [Act.put, List.setIfInBounds_toArray, List.set_cons_zero, List.set_cons_succ]
            refine wpAnyH_take (i := 5) (oi := ⟨some 59, .load 100 (.tmp 58), _, _, _, _⟩) (v := undef) rfl (by kernel_rfl) (by kernel_rfl) (by kernel_rfl) (fun _ _ _ h => h) (Or.inr ⟨by rfl, rfl⟩) trivial ?_
            simp only [Act.put, List.setIfInBounds_toArray, List.set_cons_zero, List.set_cons_succ]
            refine wpAnyH_take (i := 6) (oi := ⟨some 60, .move (.tmp 0), _, _, _, _⟩) (v := undef) rfl (by kernel_rfl) (by kernel_rfl) (by kernel_rfl) (fun _ _ _ h => h) (Or.inr ⟨by rfl, rfl⟩) trivial ?_
            simp only [Act.put, List.setIfInBounds_toArray, List.set_cons_zero, List.set_cons_succ]
            refine wpAnyH_take (i := 7) (oi := ⟨some 61, .sliceToArrayPointer 100 (.tmp 60), _, _, _, _⟩) (v := undef) rfl (by kernel_rfl) (by kernel_rfl) (by kernel_rfl) (fun _ _ _ h => h) (Or.inr ⟨by rfl, rfl⟩) trivial ?_
            simp only [Act.put, List.setIfInBounds_toArray, List.set_cons_zero, List.set_cons_succ]
            refine wpAnyH_take (i := 8) (oi := ⟨some 62, .load 100 (.tmp 61), _, _, _, _⟩) (v := undef) rfl (by kernel_rfl) (by kernel_rfl) (by kernel_rfl) (fun _ _ _ h => h) (Or.inr ⟨by rfl, rfl⟩) trivial ?_
            simp only [Act.put, List.setIfInBounds_toArray, List.set_cons_zero, List.set_cons_succ]
            refine wpAnyH_take (i := 9) (oi := ⟨some 63, .binOp BinOp.neq 100 (.tmp 59) (.tmp 62) 100, _, _, _, _⟩) (v := undef) rfl (by kernel_rfl) (by kernel_rfl) (by kernel_rfl) (fun _ _ _ h => h) (Or.inr ⟨by rfl, rfl⟩) trivial ?_
            simp only [Act.put, List.setIfInBounds_toArray, List.set_cons_zero, List.set_cons_succ]
            refine wpAnyH_take (i := 10) (oi := ⟨some 64, .pick (.tmp 56) (.const (.bool true)) (.tmp 63), _, _, _, _⟩) (v := .bool true) rfl (by kernel_rfl) (by kernel_rfl) (by kernel_rfl) (fun _ _ _ h => h) (Or.inl ⟨by rfl, ?_⟩) trivial ?_
            · intro w' hSw
              first | (go_simp; done) | (go_simp; rfl) | (go_simp; exact Go.IntWalk.i64_in _ (by omega)) | (go_simp; simp only [*])
            simp only [Act.put, List.setIfInBounds_toArray, List.set_cons_zero, List.set_cons_succ]
            refine wpAnyH_take (i := 11) (oi := ⟨some 65, .move (.tmp 64), _, _, _, _⟩) (v := .bool true) rfl (by kernel_rfl) (by kernel_rfl) (by kernel_rfl) (fun _ _ _ h => h) (Or.inl ⟨by rfl, ?_⟩) trivial ?_
            · intro w' hSw
              first | (go_simp; done) | (go_simp; rfl) | (go_simp; exact Go.IntWalk.i64_in _ (by omega)) | (go_simp; simp only [*])
            simp only [Act.put, List.setIfInBounds_toArray, List.set_cons_zero, List.set_cons_succ]
            refine wpAnyH_take (i := 12) (oi := ⟨some 66, .move (.tmp 10), _, _, _, _⟩) (v := undef) rfl (by kernel_rfl) (by kernel_rfl) (by kernel_rfl) (fun _ _ _ h => h) (Or.inr ⟨by rfl, rfl⟩) trivial ?_
            simp only [Act.put, List.setIfInBounds_toArray, List.set_cons_zero, List.set_cons_succ]
            refine wpAnyH_take (i := 13) (oi := ⟨some 67, .move (.tmp 1), _, _, _, _⟩) (v := undef) rfl (by kernel_rfl) (by kernel_rfl) (by kernel_rfl) (fun _ _ _ h => h) (Or.inr ⟨by rfl, rfl⟩) trivial ?_
            simp only [Act.put, List.setIfInBounds_toArray, List.set_cons_zero, List.set_cons_succ]
            refine wpAnyH_take (i := 14) (oi := ⟨some 68, .call { callee := .value (.func 62), args := #[.tmp 66, .tmp 67, .func 63], argTypes := #[45, 45, 50] }, _, _, _, _⟩) (v := undef) rfl (by kernel_rfl) (by kernel_rfl) (by kernel_rfl) (fun _ _ _ h => h) (Or.inr ⟨by rfl, rfl⟩) trivial ?_
            simp only [Act.put, List.setIfInBounds_toArray, List.set_cons_zero, List.set_cons_succ]
            refine wpAnyH_take (i := 15) (oi := ⟨some 69, .unOp UnOp.not 4 (.tmp 68), _, _, _, _⟩) (v := undef) rfl (by kernel_rfl) (by kernel_rfl) (by kernel_rfl) (fun _ _ _ h => h) (Or.inr ⟨by rfl, rfl⟩) trivial ?_
            simp only [Act.put, List.setIfInBounds_toArray, List.set_cons_zero, List.set_cons_succ]
            refine wpAnyH_take (i := 16) (oi := ⟨some 70, .pick (.tmp 65) (.const (.bool true)) (.tmp 69), _, _, _, _⟩) (v := .bool true) rfl (by kernel_rfl) (by kernel_rfl) (by kernel_rfl) (fun _ _ _ h => h) (Or.inl ⟨by rfl, ?_⟩) trivial ?_
            · intro w' hSw
              first | (go_simp; done) | (go_simp; rfl) | (go_simp; exact Go.IntWalk.i64_in _ (by omega)) | (go_simp; simp only [*])
            simp only [Act.put, List.setIfInBounds_toArray, List.set_cons_zero, List.set_cons_succ]
            refine wpAnyH_done (by kernel_rfl) ?_ _
            clear HB7 HR7 HM7
            generalize w7.drew = wd at *
            have HP := Aside.mk (dec_no HN.out (st5_below (a := .int .i64 0) (b := .int .i64 0) (c := .slice none 0 0) (d := .slice none 0 0) (e := .slice none 0 0) HBd.out (Nat.le_refl _)))
            obtain ⟨k0, k1, k2, k3, k4⟩ := five HRd.out
            obtain ⟨f0, f1, f2, f3, f4⟩ := frz5 HRd.out
            go_wp2_with fail
            exact bodyPost_ret (results_row_tmp rfl _ _ _ _ _ _ _ (by rfl) (st5_row HRd.out) Tryz.underlying33 rfl (by kernel_rfl) (by rfl)) rfl HP.out
          | true =>
            obtain ⟨hv2, dv2, vs, e1, ho, hbl⟩ := hy hm
            subst e1
            have HMay := Aside.mk hm
            rw [headM_len] at ho
            obtain ⟨g, cap, rfl, hg, -⟩ := own_at ho (by decide)
            obtain ⟨bh, oh, e, -⟩ := (HH.out w7 HB7.out).byte 0 (by have := HL12.out; omega)
            cases e
            have hbh : bh < w.heap.size := by
              obtain ⟨A', c', e, _, _, h3⟩ := HH.out w7 HB7.out
              cases e
              obtain ⟨b, o, e, h4, _⟩ := h3 (by have := HL12.out; omega)
              cases e
              exact h4.2
            obtain ⟨A5, m5, c5, rfl⟩ := own_slice hbl.own
            have hr1 : w7.rangeAt g 0 (u8s (headM ⟨x0, x1, c1, s1, ds⟩)) := by
              have h2 : w7.ownsRow w6.heap.size 5 1 (.slice (some ⟨g, 0, none⟩) 12 cap) (headM ⟨x0, x1, c1, s1, ds⟩).length (u8s (headM ⟨x0, x1, c1, s1, ds⟩)) := by rw [headM_len]; exact ho
              exact sl_range (own_u8s h2).sl
            have hr2 := sl_range (HH.out w7 HB7.out)
            have hS0 : w7.drew.rangeAt g 0 (u8s (headM ⟨x0, x1, c1, s1, ds⟩)) ∧ w7.drew.rangeAt bh oh (u8s head) := ⟨hr1, hr2⟩
            obtain ⟨bb, hbb⟩ : ∃ bb, bb = eqB (headM ⟨x0, x1, c1, s1, ds⟩) head := ⟨_, rfl⟩
            have HBB := Aside.mk hbb
            clear hbb
            have hlt : 12 ≤ head.length := by have := HL12.out; omega
            have hdt := HD.out w7.drew (bdrew1 HB7.out)
            have hq := Aside.mk (equalFunc_any (hbl.below (bdrew1 (Below.refl _ _))).sl hdt)
            clear hy hn hm ho hr1 hr2 hbl hdt
            have hne : ∀ W : World, (Op.equalIn 10000 100 (.agg (u8s (headM ⟨x0, x1, c1, s1, ds⟩)).toArray) (.agg (u8s head).toArray)).run Tryz.prog W = .ok bb W := fun W => by
              obtain ⟨i, hi⟩ := info_of_underlying (P := Tryz.prog) Tryz.underlying5
              have h := run_equalIn_bytes W 9998 Tryz.underlying100 hi (by kernel_rfl) Tryz.underlying5 (by kernel_rfl) (headM ⟨x0, x1, c1, s1, ds⟩) head (headM_len _) HL12.out
              rw [← HBB.out] at h
              exact h
            go_wp2_with fail
            cases bb with
            | false =>
              have HN := Aside.mk (dec_not hcol.out (fun h => by have h1 := HBB.out; rw [eqB_yes h.2.1] at h1; cases h1))
              have HRd : Aside (w7.drew.heap[w.heap.size]? = some (.cells #[.int .i64 0, .int .i64 0, .slice none 0 0, .slice none 0 0, .slice none 0 0] 33 (0, 0))) := ⟨HR7.out⟩
              have HBd := Aside.mk (bdrew1 HB7.out)
              clear HH HD HS hcol hq HMay
              go_upto_region 8 with (fail)
              refine wp_region_H (fun w' => w'.rangeAt g 0 (u8s (headM ⟨x0, x1, c1, s1, ds⟩)) ∧ w'.rangeAt bh oh (u8s head)) (by kernel_rfl) ?_
              refine wpAnyH_take (i := 0) (oi := ⟨some 54, .move (.tmp 11), _, _, _, _⟩) (v := .int .i64 0) rfl (by kernel_rfl) (by kernel_rfl) (by kernel_rfl) (fun _ _ _ h => h) (Or.inl ⟨by rfl, ?_⟩) hS0 ?_
              · intro w' hSw
                first | (go_simp; done) | (go_simp; rfl) | (go_simp; exact Go.IntWalk.i64_in _ (by omega)) | (go_simp; simp only [*])
              simp only [Act.put, List.setIfInBounds_toArray, List.set_cons_zero, List.set_cons_succ]
              refine wpAnyH_take (i := 1) (oi := ⟨some 55, .binOp BinOp.neq 36 (.tmp 54) (.const (.int .i64 0)) 36, _, _, _, _⟩) (v := .bool false) rfl (by kernel_rfl) (by kernel_rfl) (by kernel_rfl) (fun _ _ _ h => h) (Or.inl ⟨by rfl, ?_⟩) hS0 ?_
              · intro w' hSw
                first | (go_simp; done) | (go_simp; rfl) | (go_simp; exact Go.IntWalk.i64_in _ (by omega)) | (go_simp; simp only [*])
              simp only [Act.put, List.setIfInBounds_toArray, List.set_cons_zero, List.set_cons_succ]
              refine wpAnyH_take (i := 2) (oi := ⟨some 56, .move (.tmp 55), _, _, _, _⟩) (v := .bool false) rfl (by kernel_rfl) (by kernel_rfl) (by kernel_rfl) (fun _ _ _ h => h) (Or.inl ⟨by rfl, ?_⟩) hS0 ?_
              · intro w' hSw
                first | (go_simp; done) | (go_simp; rfl) | (go_simp; exact Go.IntWalk.i64_in _ (by omega)) | (go_simp; simp only [*])
              simp only [Act.put, List.setIfInBounds_toArray, List.set_cons_zero, List.set_cons_succ]
              refine wpAnyH_take (i := 3) (oi := ⟨some 57, .move (.tmp 9), _, _, _, _⟩) (v := .slice (some ⟨g, 0, none⟩) 12 cap) rfl (by kernel_rfl) (by kernel_rfl) (by kernel_rfl) (fun _ _ _ h => h) (Or.inl ⟨by rfl, ?_⟩) hS0 ?_
              · intro w' hSw
                first | (go_simp; done) | (go_simp; rfl) | (go_simp; exact Go.IntWalk.i64_in _ (by omega)) | (go_simp; simp only [*])
              simp only [Act.put, List.setIfInBounds_toArray, List.set_cons_zero, List.set_cons_succ]
              refine wpAnyH_take (i := 4) (oi := ⟨some 58, .sliceToArrayPointer 100 (.tmp 57), _, _, _, _⟩) (v := .pointer (some ⟨g, 0, none⟩)) rfl (by kernel_rfl) (by kernel_rfl) (by kernel_rfl) (fun _ _ _ h => h) (Or.inl ⟨by rfl, ?_⟩) hS0 ?_
              · intro w' hSw
                first | (go_simp; done) | (go_simp; rfl) | (go_simp; exact Go.IntWalk.i64_in _ (by omega)) | (go_simp; simp only [*])
              simp only [Act.put, List.setIfInBounds_toArray, List.set_cons_zero, List.set_cons_succ]
              refine wpAnyH_take (i := 5) (oi := ⟨some 59, .load 100 (.tmp 58), _, _, _, _⟩) (v := .agg (u8s (headM ⟨x0, x1, c1, s1, ds⟩)).toArray) rfl (by kernel_rfl) (by kernel_rfl) (by kernel_rfl) (fun _ _ _ h => h) (Or.inl ⟨by rfl, ?_⟩) hS0 ?_
              · intro w' hSw
                exact exec_load_mid 100 (.tmp 58) rfl g 0 rfl _ _ hSw.1 Tryz.underlying100 rfl (by rw [u8s_length, headM_len]; kernel_rfl)
              simp only [Act.put, List.setIfInBounds_toArray, List.set_cons_zero, List.set_cons_succ]
              refine wpAnyH_take (i := 6) (oi := ⟨some 60, .move (.tmp 0), _, _, _, _⟩) (v := .slice (some ⟨bh, oh, none⟩) head.length ch) rfl (by kernel_rfl) (by kernel_rfl) (by kernel_rfl) (fun _ _ _ h => h) (Or.inl ⟨by rfl, ?_⟩) hS0 ?_
              · intro w' hSw
                first | (go_simp; done) | (go_simp; rfl) | (go_simp; exact Go.IntWalk.i64_in _ (by omega)) | (go_simp; simp only [*])
              simp only [Act.put, List.setIfInBounds_toArray, List.set_cons_zero, List.set_cons_succ]
              refine wpAnyH_take (i := 7) (oi := ⟨some 61, .sliceToArrayPointer 100 (.tmp 60), _, _, _, _⟩) (v := .pointer (some ⟨bh, oh, none⟩)) rfl (by kernel_rfl) (by kernel_rfl) (by kernel_rfl) (fun _ _ _ h => h) (Or.inl ⟨by rfl, ?_⟩) hS0 ?_
              · intro w' hSw
                (go_simp; rw [run_arrayAt w' 100 5 12 _ _ _ Tryz.underlying100 hlt]; rfl)
              simp only [Act.put, List.setIfInBounds_toArray, List.set_cons_zero, List.set_cons_succ]
              refine wpAnyH_take (i := 8) (oi := ⟨some 62, .load 100 (.tmp 61), _, _, _, _⟩) (v := .agg (u8s head).toArray) rfl (by kernel_rfl) (by kernel_rfl) (by kernel_rfl) (fun _ _ _ h => h) (Or.inl ⟨by rfl, ?_⟩) hS0 ?_
              · intro w' hSw
                exact exec_load_mid 100 (.tmp 61) rfl bh oh rfl _ _ hSw.2 Tryz.underlying100 rfl (by rw [u8s_length, HL12.out]; kernel_rfl)
              simp only [Act.put, List.setIfInBounds_toArray, List.set_cons_zero, List.set_cons_succ]
              refine wpAnyH_take (i := 9) (oi := ⟨some 63, .binOp BinOp.neq 100 (.tmp 59) (.tmp 62) 100, _, _, _, _⟩) (v := .bool true) rfl (by kernel_rfl) (by kernel_rfl) (by kernel_rfl) (fun _ _ _ h => h) (Or.inl ⟨by rfl, ?_⟩) hS0 ?_
              · intro w' hSw
                first | (go_simp; done) | (go_simp; rfl) | (go_simp; exact Go.IntWalk.i64_in _ (by omega)) | (go_simp; simp only [*])
              simp only [Act.put, List.setIfInBounds_toArray, List.set_cons_zero, List.set_cons_succ]
              refine wpAnyH_take (i := 10) (oi := ⟨some 64, .pick (.tmp 56) (.const (.bool true)) (.tmp 63), _, _, _, _⟩) (v := .bool true) rfl (by kernel_rfl) (by kernel_rfl) (by kernel_rfl) (fun _ _ _ h => h) (Or.inl ⟨by rfl, ?_⟩) hS0 ?_
              · intro w' hSw
                first | (go_simp; done) | (go_simp; rfl) | (go_simp; exact Go.IntWalk.i64_in _ (by omega)) | (go_simp; simp only [*])
              simp only [Act.put, List.setIfInBounds_toArray, List.set_cons_zero, List.set_cons_succ]
              refine wpAnyH_take (i := 11) (oi := ⟨some 65, .move (.tmp 64), _, _, _, _⟩) (v := .bool true) rfl (by kernel_rfl) (by kernel_rfl) (by kernel_rfl) (fun _ _ _ h => h) (Or.inl ⟨by rfl, ?_⟩) hS0 ?_
              · intro w' hSw
                first | (go_simp; done) | (go_simp; rfl) | (go_simp; exact Go.IntWalk.i64_in _ (by omega)) | (go_simp; simp only [*])
              simp only [Act.put, List.setIfInBounds_toArray, List.set_cons_zero, List.set_cons_succ]
              refine wpAnyH_take (i := 12) (oi := ⟨some 66, .move (.tmp 10), _, _, _, _⟩) (v := undef) rfl (by kernel_rfl) (by kernel_rfl) (by kernel_rfl) (fun _ _ _ h => h) (Or.inr ⟨by rfl, rfl⟩) hS0 ?_
              simp only [Act.put, List.setIfInBounds_toArray, List.set_cons_zero, List.set_cons_succ]
              refine wpAnyH_take (i := 13) (oi := ⟨some 67, .move (.tmp 1), _, _, _, _⟩) (v := undef) rfl (by kernel_rfl) (by kernel_rfl) (by kernel_rfl) (fun _ _ _ h => h) (Or.inr ⟨by rfl, rfl⟩) hS0 ?_
              simp only [Act.put, List.setIfInBounds_toArray, List.set_cons_zero, List.set_cons_succ]
              refine wpAnyH_take (i := 14) (oi := ⟨some 68, .call { callee := .value (.func 62), args := #[.tmp 66, .tmp 67, .func 63], argTypes := #[45, 45, 50] }, _, _, _, _⟩) (v := undef) rfl (by kernel_rfl) (by kernel_rfl) (by kernel_rfl) (fun _ _ _ h => h) (Or.inr ⟨by rfl, rfl⟩) hS0 ?_
              simp only [Act.put, List.setIfInBounds_toArray, List.set_cons_zero, List.set_cons_succ]
              refine wpAnyH_take (i := 15) (oi := ⟨some 69, .unOp UnOp.not 4 (.tmp 68), _, _, _, _⟩) (v := undef) rfl (by kernel_rfl) (by kernel_rfl) (by kernel_rfl) (fun _ _ _ h => h) (Or.inr ⟨by rfl, rfl⟩) hS0 ?_
              simp only [Act.put, List.setIfInBounds_toArray, List.set_cons_zero, List.set_cons_succ]
              refine wpAnyH_take (i := 16) (oi := ⟨some 70, .pick (.tmp 65) (.const (.bool true)) (.tmp 69), _, _, _, _⟩) (v := .bool true) rfl (by kernel_rfl) (by kernel_rfl) (by kernel_rfl) (fun _ _ _ h => h) (Or.inl ⟨by rfl, ?_⟩) hS0 ?_
              · intro w' hSw
                first | (go_simp; done) | (go_simp; rfl) | (go_simp; exact Go.IntWalk.i64_in _ (by omega)) | (go_simp; simp only [*])
              simp only [Act.put, List.setIfInBounds_toArray, List.set_cons_zero, List.set_cons_succ]
              refine wpAnyH_done (by kernel_rfl) ?_ _
              clear HB7 HR7 HM7 hS0 hne
              generalize w7.drew = wd at *
              have HP := Aside.mk (dec_no HN.out (st5_below (a := .int .i64 0) (b := .int .i64 0) (c := .slice none 0 0) (d := .slice none 0 0) (e := .slice none 0 0) HBd.out (Nat.le_refl _)))
              obtain ⟨k0, k1, k2, k3, k4⟩ := five HRd.out
              obtain ⟨f0, f1, f2, f3, f4⟩ := frz5 HRd.out
              go_wp2_with fail
              exact bodyPost_ret (results_row_tmp rfl _ _ _ _ _ _ _ (by rfl) (st5_row HRd.out) Tryz.underlying33 rfl (by kernel_rfl) (by rfl)) rfl HP.out
            | true =>
              obtain ⟨bc, hbc⟩ : ∃ bc, bc = eqB (dataM ⟨x0, x1, c1, s1, ds⟩) data := ⟨_, rfl⟩
              rw [← hbc] at hq
              have HBC := Aside.mk hbc
              clear hbc HH HD HS
              go_upto_region 8 with (fail)
              refine wp_region_H (fun w' => w'.rangeAt g 0 (u8s (headM ⟨x0, x1, c1, s1, ds⟩)) ∧ w'.rangeAt bh oh (u8s head)) (by kernel_rfl) ?_
              refine wpAnyH_take (i := 0) (oi := ⟨some 54, .move (.tmp 11), _, _, _, _⟩) (v := .int .i64 0) rfl (by kernel_rfl) (by kernel_rfl) (by kernel_rfl) (fun _ _ _ h => h) (Or.inl ⟨by rfl, ?_⟩) hS0 ?_
              · intro w' hSw
                first | (go_simp; done) | (go_simp; rfl) | (go_simp; exact Go.IntWalk.i64_in _ (by omega)) | (go_simp; simp only [*])
              simp only [Act.put, List.setIfInBounds_toArray, List.set_cons_zero, List.set_cons_succ]
              refine wpAnyH_take (i := 1) (oi := ⟨some 55, .binOp BinOp.neq 36 (.tmp 54) (.const (.int .i64 0)) 36, _, _, _, _⟩) (v := .bool false) rfl (by kernel_rfl) (by kernel_rfl) (by kernel_rfl) (fun _ _ _ h => h) (Or.inl ⟨by rfl, ?_⟩) hS0 ?_
              · intro w' hSw
                first | (go_simp; done) | (go_simp; rfl) | (go_simp; exact Go.IntWalk.i64_in _ (by omega)) | (go_simp; simp only [*])
              simp only [Act.put, List.setIfInBounds_toArray, List.set_cons_zero, List.set_cons_succ]
              refine wpAnyH_take (i := 2) (oi := ⟨some 56, .move (.tmp 55), _, _, _, _⟩) (v := .bool false) rfl (by kernel_rfl) (by kernel_rfl) (by kernel_rfl) (fun _ _ _ h => h) (Or.inl ⟨by rfl, ?_⟩) hS0 ?_
              · intro w' hSw
                first | (go_simp; done) | (go_simp; rfl) | (go_simp; exact Go.IntWalk.i64_in _ (by omega)) | (go_simp; simp only [*])
              simp only [Act.put, List.setIfInBounds_toArray, List.set_cons_zero, List.set_cons_succ]
              refine wpAnyH_take (i := 3) (oi := ⟨some 57, .move (.tmp 9), _, _, _, _⟩) (v := .slice (some ⟨g, 0, none⟩) 12 cap) rfl (by kernel_rfl) (by kernel_rfl) (by kernel_rfl) (fun _ _ _ h => h) (Or.inl ⟨by rfl, ?_⟩) hS0 ?_
              · intro w' hSw
                first | (go_simp; done) | (go_simp; rfl) | (go_simp; exact Go.IntWalk.i64_in _ (by omega)) | (go_simp; simp only [*])
              simp only [Act.put, List.setIfInBounds_toArray, List.set_cons_zero, List.set_cons_succ]
              refine wpAnyH_take (i := 4) (oi := ⟨some 58, .sliceToArrayPointer 100 (.tmp 57), _, _, _, _⟩) (v := .pointer (some ⟨g, 0, none⟩)) rfl (by kernel_rfl) (by kernel_rfl) (by kernel_rfl) (fun _ _ _ h => h) (Or.inl ⟨by rfl, ?_⟩) hS0 ?_
              · intro w' hSw
                first | (go_simp; done) | (go_simp; rfl) | (go_simp; exact Go.IntWalk.i64_in _ (by omega)) | (go_simp; simp only [*])
              simp only [Act.put, List.setIfInBounds_toArray, List.set_cons_zero, List.set_cons_succ]
              refine wpAnyH_take (i := 5) (oi := ⟨some 59, .load 100 (.tmp 58), _, _, _, _⟩) (v := .agg (u8s (headM ⟨x0, x1, c1, s1, ds⟩)).toArray) rfl (by kernel_rfl) (by kernel_rfl) (by kernel_rfl) (fun _ _ _ h => h) (Or.inl ⟨by rfl, ?_⟩) hS0 ?_
              · intro w' hSw
                exact exec_load_mid 100 (.tmp 58) rfl g 0 rfl _ _ hSw.1 Tryz.underlying100 rfl (by rw [u8s_length, headM_len]; kernel_rfl)
              simp only [Act.put, List.setIfInBounds_toArray, List.set_cons_zero, List.set_cons_succ]
              refine wpAnyH_take (i := 6) (oi := ⟨some 60, .move (.tmp 0), _, _, _, _⟩) (v := .slice (some ⟨bh, oh, none⟩) head.length ch) rfl (by kernel_rfl) (by kernel_rfl) (by kernel_rfl) (fun _ _ _ h => h) (Or.inl ⟨by rfl, ?_⟩) hS0 ?_
              · intro w' hSw
                first | (go_simp; done) | (go_simp; rfl) | (go_simp; exact Go.IntWalk.i64_in _ (by omega)) | (go_simp; simp only [*])
              simp only [Act.put, List.setIfInBounds_toArray, List.set_cons_zero, List.set_cons_succ]
              refine wpAnyH_take (i := 7) (oi := ⟨some 61, .sliceToArrayPointer 100 (.tmp 60), _, _, _, _⟩) (v := .pointer (some ⟨bh, oh, none⟩)) rfl (by kernel_rfl) (by kernel_rfl) (by kernel_rfl) (fun _ _ _ h => h) (Or.inl ⟨by rfl, ?_⟩) hS0 ?_
              · intro w' hSw
                (go_simp; rw [run_arrayAt w' 100 5 12 _ _ _ Tryz.underlying100 hlt]; rfl)
              simp only [Act.put, List.setIfInBounds_toArray, List.set_cons_zero, List.set_cons_succ]
              refine wpAnyH_take (i := 8) (oi := ⟨some 62, .load 100 (.tmp 61), _, _, _, _⟩) (v := .agg (u8s head).toArray) rfl (by kernel_rfl) (by kernel_rfl) (by kernel_rfl) (fun _ _ _ h => h) (Or.inl ⟨by rfl, ?_⟩) hS0 ?_
              · intro w' hSw
                exact exec_load_mid 100 (.tmp 61) rfl bh oh rfl _ _ hSw.2 Tryz.underlying100 rfl (by rw [u8s_length, HL12.out]; kernel_rfl)
              simp only [Act.put, List.setIfInBounds_toArray, List.set_cons_zero, List.set_cons_succ]
              refine wpAnyH_take (i := 9) (oi := ⟨some 63, .binOp BinOp.neq 100 (.tmp 59) (.tmp 62) 100, _, _, _, _⟩) (v := .bool false) rfl (by kernel_rfl) (by kernel_rfl) (by kernel_rfl) (fun _ _ _ h => h) (Or.inl ⟨by rfl, ?_⟩) hS0 ?_
              · intro w' hSw
                first | (go_simp; done) | (go_simp; rfl) | (go_simp; exact Go.IntWalk.i64_in _ (by omega)) | (go_simp; simp only [*])
              simp only [Act.put, List.setIfInBounds_toArray, List.set_cons_zero, List.set_cons_succ]
              refine wpAnyH_take (i := 10) (oi := ⟨some 64, .pick (.tmp 56) (.const (.bool true)) (.tmp 63), _, _, _, _⟩) (v := .bool false) rfl (by kernel_rfl) (by kernel_rfl) (by kernel_rfl) (fun _ _ _ h => h) (Or.inl ⟨by rfl, ?_⟩) hS0 ?_
              · intro w' hSw
                first | (go_simp; done) | (go_simp; rfl) | (go_simp; exact Go.IntWalk.i64_in _ (by omega)) | (go_simp; simp only [*])
              simp only [Act.put, List.setIfInBounds_toArray, List.set_cons_zero, List.set_cons_succ]
              refine wpAnyH_take (i := 11) (oi := ⟨some 65, .move (.tmp 64), _, _, _, _⟩) (v := .bool false) rfl (by kernel_rfl) (by kernel_rfl) (by kernel_rfl) (fun _ _ _ h => h) (Or.inl ⟨by rfl, ?_⟩) hS0 ?_
              · intro w' hSw
                first | (go_simp; done) | (go_simp; rfl) | (go_simp; exact Go.IntWalk.i64_in _ (by omega)) | (go_simp; simp only [*])
              simp only [Act.put, List.setIfInBounds_toArray, List.set_cons_zero, List.set_cons_succ]
              refine wpAnyH_take (i := 12) (oi := ⟨some 66, .move (.tmp 10), _, _, _, _⟩) (v := .slice A5 m5 c5) rfl (by kernel_rfl) (by kernel_rfl) (by kernel_rfl) (fun _ _ _ h => h) (Or.inl ⟨by rfl, ?_⟩) hS0 ?_
              · intro w' hSw
                first | (go_simp; done) | (go_simp; rfl) | (go_simp; exact Go.IntWalk.i64_in _ (by omega)) | (go_simp; simp only [*])
              simp only [Act.put, List.setIfInBounds_toArray, List.set_cons_zero, List.set_cons_succ]
              refine wpAnyH_take (i := 13) (oi := ⟨some 67, .move (.tmp 1), _, _, _, _⟩) (v := .slice Ad data.length cd) rfl (by kernel_rfl) (by kernel_rfl) (by kernel_rfl) (fun _ _ _ h => h) (Or.inl ⟨by rfl, ?_⟩) hS0 ?_
              · intro w' hSw
                first | (go_simp; done) | (go_simp; rfl) | (go_simp; exact Go.IntWalk.i64_in _ (by omega)) | (go_simp; simp only [*])
              simp only [Act.put, List.setIfInBounds_toArray, List.set_cons_zero, List.set_cons_succ]
              refine wpAnyH_one (i := 14) (oi := ⟨some 68, .call { callee := .value (.func 62), args := #[.tmp 66, .tmp 67, .func 63], argTypes := #[45, 45, 50] }, _, _, _, _⟩) rfl (by kernel_rfl) (fun K hK => ?_)
              go_simp
              refine hq.out.mono ?_
              rintro e w8 ⟨rfl, S8⟩
              have HB8 := Aside.mk (bthen HB7.out HB7.out.size (Below.trans (bdrew1 (Below.refl _ _)) (S8.below _)))
              have HR8 := Aside.mk (bblk (Below.trans (bdrew1 (Below.refl _ _)) (S8.below _)) HR7.out)
              have HM8 := Aside.mk (HM7.out.below (Below.trans (bdrew1 (Below.refl _ _)) (S8.below _)))
              have hS8 : w8.rangeAt g 0 (u8s (headM ⟨x0, x1, c1, s1, ds⟩)) ∧ w8.rangeAt bh oh (u8s head) := by
                obtain ⟨⟨qn, rfl⟩⟩ := S8
                exact hS0
              clear S8
              refine hK _ _ ⟨hS8, ?_⟩
              clear hK K
              try simp only [Act.put, List.setIfInBounds_toArray, List.set_cons_zero, List.set_cons_succ]
              refine wpAnyH_take (i := 15) (oi := ⟨some 69, .unOp UnOp.not 4 (.tmp 68), _, _, _, _⟩) (v := .bool (!bc)) rfl (by kernel_rfl) (by kernel_rfl) (by kernel_rfl) (fun _ _ _ h => h) (Or.inl ⟨by rfl, ?_⟩) hS8 ?_
              · intro w' hSw
                first | (go_simp; done) | (go_simp; rfl) | (go_simp; exact Go.IntWalk.i64_in _ (by omega)) | (go_simp; simp only [*])
              simp only [Act.put, List.setIfInBounds_toArray, List.set_cons_zero, List.set_cons_succ]
              refine wpAnyH_take (i := 16) (oi := ⟨some 70, .pick (.tmp 65) (.const (.bool true)) (.tmp 69), _, _, _, _⟩) (v := .bool (!bc)) rfl (by kernel_rfl) (by kernel_rfl) (by kernel_rfl) (fun _ _ _ h => h) (Or.inl ⟨by rfl, ?_⟩) hS8 ?_
              · intro w' hSw
                first | (go_simp; done) | (go_simp; rfl) | (go_simp; exact Go.IntWalk.i64_in _ (by omega)) | (go_simp; simp only [*])
              simp only [Act.put, List.setIfInBounds_toArray, List.set_cons_zero, List.set_cons_succ]
              refine wpAnyH_done (by kernel_rfl) ?_ _
              clear HB7 HR7 HM7 hS0 hne hS8 hq
              cases bc with
              | false =>
                have HN := Aside.mk (dec_not hcol.out (fun h => by have h1 := HBC.out; rw [eqB_yes h.2.2] at h1; cases h1))
                have HP := Aside.mk (dec_no HN.out (st5_below (a := .int .i64 0) (b := .int .i64 0) (c := .slice none 0 0) (d := .slice none 0 0) (e := .slice none 0 0) HB8.out (Nat.le_refl _)))
                obtain ⟨k0, k1, k2, k3, k4⟩ := five HR8.out
                obtain ⟨f0, f1, f2, f3, f4⟩ := frz5 HR8.out
                go_wp2_with fail
                exact bodyPost_ret (results_row_tmp rfl _ _ _ _ _ _ _ (by rfl) (st5_row HR8.out) Tryz.underlying33 rfl (by kernel_rfl) (by rfl)) rfl HP.out
              | true =>
                obtain ⟨Ac, nc, cc, hcv⟩ := own_slice HM8.out.oc
                obtain ⟨As, ns, cs', hsv⟩ := own_slice HM8.out.os
                obtain ⟨Ae, ne, ce, hdv⟩ := own_slice HM8.out.od
                subst hcv hsv hdv
                have HYes : Aside (decM head data = some ⟨x0, x1, c1, s1, ds⟩) := ⟨decM_iff.2 ⟨HMay.out, eqB_iff.1 HBB.out.symm, eqB_iff.1 HBC.out.symm⟩⟩
                have HP : Aside (DecPost w head data (.returned (.tuple #[.agg #[.int .i64 x0, .int .i64 x1, .slice Ac nc cc, .slice As ns cs', .slice Ae ne ce], .int .i64 0])) (st5 w8 w.heap.size (.int .i64 x0) (.int .i64 x1) (.slice Ac nc cc) (.slice As ns cs') (.slice Ae ne ce))) := ⟨⟨(fun m e => by
                  rw [HYes.out] at e
                  cases e
                  exact ⟨_, rfl, HM8.out.om (Nat.le_of_lt HRlt.out) HRlt.out rfl⟩), (fun e => by rw [HYes.out] at e; cases e), st5_below HB8.out (Nat.le_refl _)⟩⟩
                obtain ⟨k0, k1, k2, k3, k4⟩ := five HR8.out
                obtain ⟨f0, f1, f2, f3, f4⟩ := frz5 HR8.out
                obtain ⟨q0, q1, q2, q3, q4⟩ := five HM8.out.box
                have hRM : w.heap.size ≠ w3.heap.size := by have := HRlt.out; omega
                clear hcol
                go_wp2_with fail
                exact bodyPost_ret (results_row_tmp rfl _ _ _ _ _ _ _ (by rfl) (st5_row HR8.out) Tryz.underlying33 rfl (by kernel_rfl) (by rfl)) rfl HP.out
    · have HP := Aside.mk (dec_no (dec_short (head := head) (data := data) (fun h => hk (HX2.out ▸ h.2))) (st5_below (a := .int .i64 0) (b := .int .i64 0) (c := .slice none 0 0) (d := .slice none 0 0) (e := .slice none 0 0) HB1.out (Nat.le_refl _)))
      obtain ⟨k0, k1, k2, k3, k4⟩ := five HR1.out
      obtain ⟨f0, f1, f2, f3, f4⟩ := frz5 HR1.out
      clear HH HD HS
      go_wp2_with fail
      exact bodyPost_ret (results_row_tmp rfl _ _ _ _ _ _ _ (by rfl) (st5_row HR1.out) Tryz.underlying33 rfl (by kernel_rfl) (by rfl)) rfl HP.out
  · have hl1 : ((head.length : Int) != 12) = true := by simp; omega
    have HP := Aside.mk (dec_no (dec_short (head := head) (data := data) (fun h => h12 h.1)) HBa.out)
    clear h12 HH HD HS
    go_enter Tryz.func32, Tryz.ntmps32
    go_wp2_with fail
    exact bodyPost_ret (results_row_tmp rfl _ _ _ _ _ _ _ (by rfl) HRa.out Tryz.underlying33 rfl (by kernel_rfl) (by rfl)) rfl HP.out
end Go.Proofs.YtgbladpoglhleaaGreatDoor
