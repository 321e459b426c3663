/- The reference's May walked: any nodes; it answers what the program's may does. No condition. -/
import Derived.Test.YtikgdhmnnnicmaaDoorMy
namespace Go.Proofs.YtikgdhmnnnicmaaDoor
open Go.RowKit
def badA6 (n : Int) (x : Node) : Bool := decide (x.K < 0) || decide (16777216 ≤ x.K) || decide (x.Least < 0) || decide (n ≤ x.Least) || decide (x.Size < 1) || decide (n < x.Size)
def rmStep (n : Int) (l : List Node) (a : List Int × Int) (i : Nat) : Option (List Int × Int) :=
  if badA6 n (l.getD i dN) = true then none
  else if 0 < i ∧ badB (l.getD (i - 1) dN) (l.getD i dN) = true then none
  else if (l.getD i dN).Parent = -1 then some (a.1, wrap64 (a.2 + (l.getD i dN).Size))
  else if badC l i (l.getD i dN) = true then none
  else some (a.1.set (l.getD i dN).Parent.toNat (wrap64 (a.1.getD (l.getD i dN).Parent.toNat 0 + (l.getD i dN).Size)), a.2)
def rmF (n : Int) (l : List Node) : Bool := match (List.range l.length).foldlM (rmStep n l) (List.replicate l.length 0, 0) with
  | some a => (List.range l.length).all (fun i => decide (a.1.getD i 0 < (l.getD i dN).Size)) && decide (a.2 = n)
  | none => false
theorem badA_six (n : Int) (x : Node) (v : Int) : badA n x v = (badA6 n x || decide (x.Size ≤ v)) := rfl
/-- A step of May changes no place up to its own. -/
theorem rmStep_keeps {n : Int} {l : List Node} {a b : List Int × Int} {i j : Nat} (h : rmStep n l a i = some b) (hj : j ≤ i) : b.1.getD j 0 = a.1.getD j 0 := by
  unfold rmStep at h
  split at h
  · cases h
  · split at h
    · cases h
    · split at h
      · cases h; rfl
      · split at h
        · cases h
        · rename_i hC
          have hc := badC_in (Bool.eq_false_iff.2 hC)
          cases h
          have hne : (l.getD i dN).Parent.toNat ≠ j := by omega
          show (a.1.set (l.getD i dN).Parent.toNat _).getD j 0 = _
          rw [List.getD_eq_getElem?_getD, List.getElem?_set_ne hne, List.getD_eq_getElem?_getD]
theorem mayStep_rm {n : Int} {l : List Node} {a b : List Int × Int} {i : Nat} : mayStep n l a i = some b ↔ (a.1.getD i 0 < (l.getD i dN).Size ∧ rmStep n l a i = some b) := by
  unfold mayStep rmStep
  rw [badA_six]
  by_cases h : a.1.getD i 0 < (l.getD i dN).Size
  · rw [decide_eq_false (by omega), Bool.or_false]
    simp only [h, true_and]
  · rw [decide_eq_true (by omega), Bool.or_true, if_pos rfl]
    exact ⟨fun e => (by cases e), fun e => absurd e.1 h⟩
theorem may_rm {n : Int} {l : List Node} {a0 : List Int × Int} : ∀ (k : Nat) (b : List Int × Int),
    (List.range k).foldlM (mayStep n l) a0 = some b ↔ ((List.range k).foldlM (rmStep n l) a0 = some b ∧ ∀ i, i < k → b.1.getD i 0 < (l.getD i dN).Size) := by
  intro k
  induction k with
  | zero => intro b; simp
  | succ k ih =>
    intro b
    rw [List.range_succ, List.foldlM_append, List.foldlM_append]
    simp only [List.foldlM_cons, List.foldlM_nil, bind_pure]
    constructor
    · intro h
      obtain ⟨c, h1, h2⟩ := Option.bind_eq_some_iff.1 h
      obtain ⟨h3, h4⟩ := (ih c).1 h1
      obtain ⟨h5, h6⟩ := mayStep_rm.1 h2
      refine ⟨Option.bind_eq_some_iff.2 ⟨c, h3, h6⟩, fun i hi => ?_⟩
      rw [rmStep_keeps h6 (by omega)]
      rcases Nat.lt_or_ge i k with q | q
      · exact h4 i q
      · obtain rfl : i = k := by omega
        exact h5
    · rintro ⟨h, hb⟩
      obtain ⟨c, h1, h2⟩ := Option.bind_eq_some_iff.1 h
      have hk : ∀ i, i < k + 1 → c.1.getD i 0 < (l.getD i dN).Size := fun i hi => by
        rw [← rmStep_keeps h2 (by omega)]
        exact hb i hi
      exact Option.bind_eq_some_iff.2 ⟨c, (ih c).2 ⟨h1, fun i hi => hk i (by omega)⟩, mayStep_rm.2 ⟨hk k (by omega), h2⟩⟩
/-- The two tests are one. -/
theorem rmF_may (n : Int) (l : List Node) : rmF n l = mayF n l := by
  unfold rmF mayF
  cases hR : (List.range l.length).foldlM (rmStep n l) (List.replicate l.length 0, 0) with
  | none =>
    cases hM : (List.range l.length).foldlM (mayStep n l) (List.replicate l.length 0, 0) with
    | none => rfl
    | some b =>
      have := ((may_rm _ _).1 hM).1
      rw [hR] at this
      cases this
  | some a =>
    cases hq : (List.range l.length).all (fun i => decide (a.1.getD i 0 < (l.getD i dN).Size)) with
    | true =>
      have hM := (may_rm l.length a).2 ⟨hR, fun i hi => by
        have := List.all_eq_true.1 hq i (List.mem_range.2 hi)
        exact of_decide_eq_true this⟩
      rw [hM]
      show (_ && decide (a.2 = n)) = decide (a.2 = n)
      rw [hq, Bool.true_and]
    | false =>
      cases hM : (List.range l.length).foldlM (mayStep n l) (List.replicate l.length 0, 0) with
      | none =>
        show (_ && decide (a.2 = n)) = false
        rw [hq, Bool.false_and]
      | some b =>
        obtain ⟨h1, h2⟩ := (may_rm _ _).1 hM
        rw [hR] at h1
        cases h1
        have : (List.range l.length).all (fun i => decide (a.1.getD i 0 < (l.getD i dN).Size)) = true := List.all_eq_true.2 fun i hi => decide_eq_true (h2 i (List.mem_range.1 hi))
        rw [hq] at this
        cases this
theorem badA6_cases (n : Int) (k a s p : Int) (b : Bool) (hb : b = badA6 n ⟨k, a, s, p⟩) :
    (decide (k < 0) = true ∧ Aside (b = true)) ∨
    (decide (k < 0) = false ∧ decide (16777216 ≤ k) = true ∧ Aside (b = true)) ∨
    (decide (k < 0) = false ∧ decide (16777216 ≤ k) = false ∧ decide (a < 0) = true ∧ Aside (b = true)) ∨
    (decide (k < 0) = false ∧ decide (16777216 ≤ k) = false ∧ decide (a < 0) = false ∧ decide (n ≤ a) = true ∧ Aside (b = true)) ∨
    (decide (k < 0) = false ∧ decide (16777216 ≤ k) = false ∧ decide (a < 0) = false ∧ decide (n ≤ a) = false ∧ decide (s < 1) = true ∧ Aside (b = true)) ∨
    (decide (k < 0) = false ∧ decide (16777216 ≤ k) = false ∧ decide (a < 0) = false ∧ decide (n ≤ a) = false ∧ decide (s < 1) = false ∧ decide (n < s) = true ∧ Aside (b = true)) ∨
    (decide (k < 0) = false ∧ decide (16777216 ≤ k) = false ∧ decide (a < 0) = false ∧ decide (n ≤ a) = false ∧ decide (s < 1) = false ∧ decide (n < s) = false ∧ Aside (b = false)) := by
  unfold badA6 at hb
  simp only at hb
  generalize decide (k < 0) = d1 at *
  generalize decide (16777216 ≤ k) = d2 at *
  generalize decide (a < 0) = d3 at *
  generalize decide (n ≤ a) = d4 at *
  generalize decide (s < 1) = d5 at *
  generalize decide (n < s) = d6 at *
  subst hb
  cases d1 <;> cases d2 <;> cases d3 <;> cases d4 <;> cases d5 <;> cases d6 <;> simp [aside_iff]
theorem badBs_cases (yk yl ys yp xk xl xs xp : Int) (b : Bool) (hb : b = badB ⟨yk, yl, ys, yp⟩ ⟨xk, xl, xs, xp⟩) :
    (decide (yk < xk) = true ∧ Aside (b = true)) ∨ (decide (yk < xk) = false ∧ (yk == xk) = false ∧ Aside (b = false)) ∨
    (decide (yk < xk) = false ∧ (yk == xk) = true ∧ decide (xl ≤ yl) = true ∧ Aside (b = true)) ∨ (decide (yk < xk) = false ∧ (yk == xk) = true ∧ decide (xl ≤ yl) = false ∧ Aside (b = false)) := by
  have e : (yk == xk) = (xk == yk) := by
    by_cases h : xk = yk
    · subst h; rfl
    · have h1 : (xk == yk) = false := by simpa using h
      have h2 : (yk == xk) = false := by simpa using fun q => h q.symm
      rw [h1, h2]
  rw [e]
  exact badB_cases yk yl ys yp xk xl xs xp b hb
set_option maxHeartbeats 8000000 in
set_option maxRecDepth 100000 in
theorem refMay_any {w : World} {ok : Nat → Prop} {v : Value} {l : List Node} (n : Int) (hs : Sl knode w ok v l) (hl : l.length ≤ 16777216) : Calls Tryd.prog 24 #[.int .i64 n, v] w (MayP w (rmF n l)) := by
  obtain ⟨A, c, rfl, hc, hm⟩ := hs.slice
  have HL : Aside (∀ W, Below w.heap.size w W → Sl knode W ok (.slice A l.length c) l) := ⟨fun W hW => hs.below hW⟩
  have hmk := run_make_row' (P := Tryd.prog) 48 3 (.int .i64 0) 8 Tryd.underlying48 Tryd.info3 rfl .i64 .i64 l.length (by omega) (by omega)
  have HLe := Aside.mk hl
  clear hs
  go_enter Tryd.func24, Tryd.ntmps24
  go_wp2
  have hib : (w.alloc (.cells (madeCells #[.int .i64 0] l.length) 3)).heap[w.heap.size]? = some (.cells (ints (List.replicate l.length 0)).toArray 3 (0, 0)) := by
    rw [heap_alloc_new, toList_made_ints]
  have hbb := (Below.refl w.heap.size w).alloc (Nat.le_refl _) (.cells (madeCells #[.int .i64 0] l.length) 3)
  obtain ⟨ib, hibe⟩ : ∃ ib, ib = w.heap.size := ⟨_, rfl⟩
  rw [← hibe] at hib hbb ⊢
  generalize w.alloc (.cells (madeCells #[.int .i64 0] l.length) 3) = w1 at *
  have HIB := Aside.mk hib
  have HBB := Aside.mk hbb
  have HIE := Aside.mk hibe
  have HF : Aside (((List.range l.length).drop 0).foldlM (rmStep n l) (List.replicate l.length 0, 0) = (List.range l.length).foldlM (rmStep n l) (List.replicate l.length 0, 0)) := ⟨by rw [List.drop_zero]⟩
  have HIL : Aside ((List.replicate l.length (0 : Int)).length = l.length) := ⟨by simp⟩
  have HRes : Aside (∀ (b : Bool) (W : World), Below ib w W → (rmF n l = b) → MayP w (rmF n l) (.returned (.bool b)) W) := ⟨fun b W hW e => ⟨by rw [e], by rw [← HIE.out]; exact hW⟩⟩
  have HMay : Aside (∀ r, (List.range l.length).foldlM (rmStep n l) (List.replicate l.length 0, 0) = r → rmF n l = match r with | some a => (List.range l.length).all (fun i => decide (a.1.getD i 0 < (l.getD i dN).Size)) && decide (a.2 = n) | none => false) := ⟨fun r e => by unfold rmF; rw [e]⟩
  generalize (List.range l.length).foldlM (rmStep n l) (List.replicate l.length 0, 0) = R at *
  clear hib hbb hibe hmk
  go_loopg [5, 7] l.length (fun kq v6 v14 wr => ∃ (i : Nat) (s : List Int) (al : Int), Aside (i + kq = l.length) ∧ v14 = .int .i64 i ∧ v6 = .int .i64 al ∧ Aside (((List.range l.length).drop i).foldlM (rmStep n l) (s, al) = R) ∧ Aside (s.length = l.length) ∧ Aside (Below ib w wr) ∧ Aside (wr.heap[ib]? = some (.cells (ints s).toArray 3 (0, 0))))
  case atStart => exact ⟨0, _, 0, ⟨by omega⟩, rfl, rfl, HF, HIL, HBB, HIB⟩
  case round =>
    clear HIB HBB HF HIL
    obtain ⟨i, s, al, HI, rfl, rfl, HF, HSL, HBB, HIB⟩ := hrel
    by_cases hi : i < l.length
    · obtain ⟨b, o, e, k0, k1, k2, k3⟩ := (HL.out wr (by rw [← HIE.out]; exact HBB.out)).node i hi
      cases e
      have hf := HF.out
      rw [List.drop_eq_getElem_cons (by simpa using hi), List.getElem_range, List.foldlM_cons] at hf
      have hgd : l.getD i dN = l[i] := by rw [List.getD_eq_getElem?_getD, List.getElem?_eq_getElem hi]; rfl
      have hstep : rmStep n l (s, al) i = (if badA6 n l[i] = true then none else if 0 < i ∧ badB (l.getD (i - 1) dN) l[i] = true then none else if l[i].Parent = -1 then some (s, wrap64 (al + l[i].Size)) else if badC l i l[i] = true then none else some (s.set l[i].Parent.toNat (wrap64 (s.getD l[i].Parent.toNat 0 + l[i].Size)), al)) := by
        unfold rmStep
        rw [hgd]
      rw [hstep] at hf
      have HF1 := Aside.mk hf
      have HIN : Aside (l.length - (i + 1) < gk) := ⟨by have := HI.out; omega⟩
      have hii : i ≤ 16777216 := by have := HLe.out; omega
      clear hf HF hgd hstep
      generalize l[i] = X at *
      obtain ⟨xk, xl, xs, xp⟩ := X
      simp only at k0 k1 k2 k3
      go_upto_region 7 with (fail)
      have q0 : (wr.alloc (.cells #[.int .i64 xk, .int .i64 xl, .int .i64 xs, .int .i64 xp] 27)).cell? ⟨wr.heap.size, 0, none⟩ = some (.int .i64 xk) := cell_blk (heap_alloc_new _ _) rfl
      have q1 : (wr.alloc (.cells #[.int .i64 xk, .int .i64 xl, .int .i64 xs, .int .i64 xp] 27)).cell? ⟨wr.heap.size, 1, none⟩ = some (.int .i64 xl) := cell_blk (heap_alloc_new _ _) rfl
      have q2 : (wr.alloc (.cells #[.int .i64 xk, .int .i64 xl, .int .i64 xs, .int .i64 xp] 27)).cell? ⟨wr.heap.size, 2, none⟩ = some (.int .i64 xs) := cell_blk (heap_alloc_new _ _) rfl
      have q3 : (wr.alloc (.cells #[.int .i64 xk, .int .i64 xl, .int .i64 xs, .int .i64 xp] 27)).cell? ⟨wr.heap.size, 3, none⟩ = some (.int .i64 xp) := cell_blk (heap_alloc_new _ _) rfl
      have hbA := (Below.refl wr.heap.size wr).alloc (Nat.le_refl _) (.cells #[.int .i64 xk, .int .i64 xl, .int .i64 xs, .int .i64 xp] 27)
      have hsz : ib ≤ wr.heap.size := by have := HBB.out.size; have := HIE.out; omega
      have HB1 := Aside.mk (HBB.out.trans (hbA.mono hsz))
      have HI1 := Aside.mk (bblk hbA HIB.out)
      obtain ⟨xb, hxb⟩ : ∃ xb, xb = wr.heap.size := ⟨_, rfl⟩
      rw [← hxb] at q0 q1 q2 q3 ⊢
      generalize wr.alloc (.cells #[.int .i64 xk, .int .i64 xl, .int .i64 xs, .int .i64 xp] 27) = W1 at *
      clear k0 k1 k2 k3 HBB HIB hbA hsz hxb
      obtain ⟨bA, hbAe⟩ : ∃ bA, bA = badA6 n ⟨xk, xl, xs, xp⟩ := ⟨_, rfl⟩
      have HBA := Aside.mk hbAe
      clear hbAe
      go_cut [52] (fun v57 wx => v57 = .bool bA ∧ Aside (Below ib w wx) ∧ Aside (wx.heap[ib]? = some (.cells (ints s).toArray 3 (0, 0))) ∧ wx.cell? ⟨xb, 2, none⟩ = some (.int .i64 xs) ∧ wx.cell? ⟨xb, 0, none⟩ = some (.int .i64 xk) ∧ wx.cell? ⟨xb, 1, none⟩ = some (.int .i64 xl) ∧ wx.cell? ⟨xb, 3, none⟩ = some (.int .i64 xp))
      case first =>
        rcases badA6_cases n xk xl xs xp bA HBA.out with ⟨f1, HA⟩ | ⟨f1, f2, HA⟩ | ⟨f1, f2, f3, HA⟩ | ⟨f1, f2, f3, f4, HA⟩ | ⟨f1, f2, f3, f4, f5, HA⟩ | ⟨f1, f2, f3, f4, f5, f6, HA⟩ | ⟨f1, f2, f3, f4, f5, f6, HA⟩ <;> (go_wp2; go_meet; case rel => exact ⟨by rw [HA.out], HB1, HI1, by simpa using q2, by simpa using q0, by simpa using q1, by simpa using q3⟩)
      case rest =>
        obtain ⟨rfl, HB5, HI5, q2', q0', q1', q3'⟩ := hcut
        clear q0 q1 q2 q3 HB1 HI1
        obtain ⟨w5, rfl⟩ : ∃ w5, w5 = wc := ⟨_, rfl⟩
        cases bA with
        | true =>
          have hr : R = none := by have h := HF1.out; rw [if_pos HBA.out.symm] at h; exact h.symm
          have HP : Aside (MayP w (rmF n l) (.returned (.bool false)) w5) := ⟨HRes.out false w5 HB5.out (HMay.out none hr)⟩
          clear hr
          go_wp2
          go_ret
          exact HP.out
        | false =>
          have hf := HF1.out
          rw [if_neg (by rw [← HBA.out]; decide)] at hf
          have HF2 := Aside.mk hf
          clear hf HF1 HBA
          obtain ⟨bB, hbBe⟩ : ∃ bB, bB = decide (0 < i ∧ badB (l.getD (i - 1) dN) ⟨xk, xl, xs, xp⟩ = true) := ⟨_, rfl⟩
          have HBB := Aside.mk hbBe
          clear hbBe
          go_upto_region 9 with (fail)
          go_cut [87] (fun v92 wx => v92 = .bool bB ∧ Aside (Below ib w wx) ∧ Aside (wx.heap[ib]? = some (.cells (ints s).toArray 3 (0, 0))) ∧ wx.cell? ⟨xb, 2, none⟩ = some (.int .i64 xs) ∧ wx.cell? ⟨xb, 0, none⟩ = some (.int .i64 xk) ∧ wx.cell? ⟨xb, 1, none⟩ = some (.int .i64 xl) ∧ wx.cell? ⟨xb, 3, none⟩ = some (.int .i64 xp))
          case first =>
            by_cases h0 : 0 < i
            · obtain ⟨j, rfl⟩ : ∃ j, i = j + 1 := ⟨i - 1, by omega⟩
              have hjl : j < l.length := by omega
              obtain ⟨b', o', e, p0, p1, p2, p3⟩ := (HL.out w5 (by rw [← HIE.out]; exact HB5.out)).node j hjl
              cases e
              have hgd : l.getD (j + 1 - 1) dN = l[j] := by rw [Nat.add_sub_cancel, List.getD_eq_getElem?_getD, List.getElem?_eq_getElem hjl]; rfl
              have HB6 : Aside (bB = badB l[j] ⟨xk, xl, xs, xp⟩) := ⟨by rw [HBB.out, hgd]; simp⟩
              clear hgd HBB h0
              generalize l[j] = Y at *
              obtain ⟨yk, yl, ys, yp⟩ := Y
              simp only at p0 p1
              have f0 : decide (0 < j + 1) = true := decide_eq_true (by omega)
              have f00 : decide ((0 : Int) < ((j + 1 : Nat) : Int)) = true := decide_eq_true (by omega)
              have hij : ((j + 1 : Nat) : Int) - 1 = (j : Int) := by omega
              clear p2 p3
              rcases badBs_cases yk yl ys yp xk xl xs xp bB HB6.out with ⟨f1, HB7⟩ | ⟨f1, f2, HB7⟩ | ⟨f1, f2, f3, HB7⟩ | ⟨f1, f2, f3, HB7⟩ <;> (go_quiet (fail); go_wp2; go_meet; case rel => exact ⟨by rw [HB7.out], ⟨bdrew HB5.out _⟩, ⟨HI5.out⟩, by simpa using q2', by simpa using q0', by simpa using q1', by simpa using q3'⟩)
            · have hi0 : i = 0 := by omega
              subst hi0
              have HB7 : Aside (bB = false) := ⟨by rw [HBB.out]; simp⟩
              clear HBB h0
              go_quiet (fail)
              go_wp2
              go_meet
              case rel => exact ⟨by rw [HB7.out], ⟨bdrew HB5.out _⟩, ⟨HI5.out⟩, by simpa using q2', by simpa using q0', by simpa using q1', by simpa using q3'⟩
          case rest =>
            obtain ⟨rfl, HB8, HI8, r2, r0, r1, r3⟩ := hcut
            clear q2' q0' q1' q3' HB5 HI5
            obtain ⟨w6, rfl⟩ : ∃ w6, w6 = wc := ⟨_, rfl⟩
            cases bB with
            | true =>
              have hr : R = none := by have h := HF2.out; rw [if_pos (of_decide_eq_true HBB.out.symm)] at h; exact h.symm
              have HP : Aside (MayP w (rmF n l) (.returned (.bool false)) w6) := ⟨HRes.out false w6 HB8.out (HMay.out none hr)⟩
              clear hr
              go_wp2
              go_ret
              exact HP.out
            | false =>
              have hf := HF2.out
              rw [if_neg (of_decide_eq_false HBB.out.symm)] at hf
              by_cases hp : xp = -1
              · subst hp
                rw [if_pos rfl] at hf
                have HF4 : Aside (((List.range l.length).drop (i + 1)).foldlM (rmStep n l) (s, wrap64 (al + xs)) = R) := ⟨hf⟩
                clear hf HF2 HBB
                go_wp2
                go_roundg (l.length - (i + 1))
                case measure => exact HIN.out
                case rel => exact ⟨i + 1, s, _, ⟨by omega⟩, by go_num, rfl, HF4, HSL, HB8, HI8⟩
              · rw [if_neg hp] at hf
                have HF3 := Aside.mk hf
                have hpe : (xp == -1) = false := by simp [hp]
                clear hf HF2 HBB hp
                obtain ⟨bC, hbCe⟩ : ∃ bC, bC = badC l i ⟨xk, xl, xs, xp⟩ := ⟨_, rfl⟩
                have HBC := Aside.mk hbCe
                clear hbCe
                go_upto_region 13 with (fail)
                clear hpe
                go_cut [127] (fun v132 wx => v132 = .bool bC ∧ Aside (Below ib w wx) ∧ Aside (wx.heap[ib]? = some (.cells (ints s).toArray 3 (0, 0))) ∧ wx.cell? ⟨xb, 2, none⟩ = some (.int .i64 xs) ∧ wx.cell? ⟨xb, 0, none⟩ = some (.int .i64 xk) ∧ wx.cell? ⟨xb, 1, none⟩ = some (.int .i64 xl) ∧ wx.cell? ⟨xb, 3, none⟩ = some (.int .i64 xp))
                case first =>
                  by_cases c1 : xp ≤ i
                  · have f1 : decide (xp ≤ i) = true := decide_eq_true c1
                    have HC : Aside (bC = true) := ⟨by rw [HBC.out]; unfold badC; simp [c1]⟩
                    clear c1
                    go_quiet (fail)
                    go_wp2
                    go_meet
                    case rel => exact ⟨by rw [HC.out], ⟨bdrew HB8.out _⟩, ⟨HI8.out⟩, by simpa using r2, by simpa using r0, by simpa using r1, by simpa using r3⟩
                  · by_cases c2 : (l.length : Int) ≤ xp
                    · have f1 : decide (xp ≤ i) = false := decide_eq_false c1
                      have f2 : decide ((l.length : Int) ≤ xp) = true := decide_eq_true c2
                      have HC : Aside (bC = true) := ⟨by rw [HBC.out]; unfold badC; simp [c2]⟩
                      clear c1 c2
                      go_quiet (fail)
                      go_wp2
                      go_meet
                      case rel => exact ⟨by rw [HC.out], ⟨bdrew HB8.out _⟩, ⟨HI8.out⟩, by simpa using r2, by simpa using r0, by simpa using r1, by simpa using r3⟩
                    · obtain ⟨p, rfl⟩ : ∃ p : Nat, xp = (p : Int) := ⟨xp.toNat, by omega⟩
                      have hpl : p < l.length := by omega
                      obtain ⟨b', o', e, p0, p1, p2, p3⟩ := (HL.out w6 (by rw [← HIE.out]; exact HB8.out)).node p hpl
                      cases e
                      have g1 : decide ((p : Int) ≤ (i : Int)) = false := decide_eq_false c1
                      have g1' : decide (p ≤ i) = false := decide_eq_false (by omega)
                      have g2 : decide ((l.length : Int) ≤ (p : Int)) = false := decide_eq_false c2
                      have g2' : decide (l.length ≤ p) = false := decide_eq_false (by omega)
                      have hgd : l.getD (p : Int).toNat dN = l[p] := by rw [Int.toNat_natCast, List.getD_eq_getElem?_getD, List.getElem?_eq_getElem hpl]; rfl
                      have HC6 : Aside (bC = (decide (xk ≤ l[p].K) || decide (xl < l[p].Least))) := ⟨by rw [HBC.out]; unfold badC; rw [hgd]; simp [g1', g2']⟩
                      clear hgd HBC c1 c2
                      generalize l[p] = Y at *
                      obtain ⟨yk, yl, ys, yp⟩ := Y
                      simp only at p0 p1
                      clear p2 p3
                      rcases two_cases _ _ _ HC6.out with ⟨f1, HC⟩ | ⟨f1, f2, HC⟩ | ⟨f1, f2, HC⟩ <;> (go_quiet (fail); go_wp2; go_meet; case rel => exact ⟨by rw [HC.out], ⟨bdrew HB8.out _⟩, ⟨HI8.out⟩, by simpa using r2, by simpa using r0, by simpa using r1, by simpa using r3⟩)
                case rest =>
                  obtain ⟨rfl, HB9, HI9, s2, s0, s1, s3⟩ := hcut
                  clear r2 r0 r1 r3 HB8 HI8
                  obtain ⟨w7, rfl⟩ : ∃ w7, w7 = wc := ⟨_, rfl⟩
                  cases bC with
                  | true =>
                    have hr : R = none := by have h := HF3.out; rw [if_pos HBC.out.symm] at h; exact h.symm
                    have HP : Aside (MayP w (rmF n l) (.returned (.bool false)) w7) := ⟨HRes.out false w7 HB9.out (HMay.out none hr)⟩
                    clear hr
                    go_wp2
                    go_ret
                    exact HP.out
                  | false =>
                    have hf := HF3.out
                    rw [if_neg (by rw [← HBC.out]; decide)] at hf
                    obtain ⟨c1, c2⟩ := badC_in HBC.out.symm
                    simp only at c1 c2
                    obtain ⟨p, rfl⟩ : ∃ p : Nat, xp = (p : Int) := ⟨xp.toNat, by omega⟩
                    have hpl : p < s.length := by have := HSL.out; omega
                    rw [Int.toNat_natCast] at hf
                    obtain ⟨cp, fp, hst⟩ := ints_blk HI9.out (x := p) hpl
                    generalize s.getD p 0 = vp at *
                    have HF4 : Aside (((List.range l.length).drop (i + 1)).foldlM (rmStep n l) (s.set p (wrap64 (vp + xs)), al) = R) := ⟨hf⟩
                    have HST := Aside.mk hst
                    have HSP : Aside ((s.set p (wrap64 (vp + xs))).length = l.length) := ⟨by rw [List.length_set]; exact HSL.out⟩
                    have hsl : s.length = l.length := HSL.out
                    have hpl' : p < l.length := by omega
                    have hpb : p ≤ 16777216 := by have := HLe.out; omega
                    clear hf HF3 HBC hst hpl hsl c1 c2
                    go_upto_region 15 with (fail)
                    go_region
                    go_wp2
                    go_roundg (l.length - (i + 1))
                    case measure => exact HIN.out
                    case rel => exact ⟨i + 1, _, al, ⟨by omega⟩, by go_num, rfl, HF4, HSP, ⟨(bdrew HB9.out _).setCell (Nat.le_refl _) _⟩, ⟨HST.out _⟩⟩
    · have hf := HF.out
      have hie : i = l.length := by have := HI.out; omega
      rw [List.drop_of_length_le (by simp; omega)] at hf
      have hf : some (s, al) = R := hf
      have hmay := HMay.out _ hf.symm
      simp only at hmay
      have HM2 := Aside.mk hmay
      replace hi : l.length ≤ i := by omega
      clear hf HF hmay HMay hie HI
      go_wp2
      go_loopg [9] l.length (fun kq v9 wr2 => ∃ (j : Nat), Aside (j + kq = l.length) ∧ v9 = .int .i64 j ∧ Aside (Below ib w wr2) ∧ Aside (wr2.heap[ib]? = some (.cells (ints s).toArray 3 (0, 0))) ∧ Aside (∀ i, i < j → s.getD i 0 < (l.getD i dN).Size))
      case atStart => exact ⟨0, ⟨by omega⟩, rfl, HBB, HIB, ⟨fun i hi => absurd hi (Nat.not_lt_zero _)⟩⟩
      case round =>
        clear HBB HIB
        obtain ⟨j, HJ, rfl, HBB, HIB, HAll⟩ := hrel
        by_cases hj : j < l.length
        · obtain ⟨b, o, e, k0, k1, k2, k3⟩ := (HL.out wr (by rw [← HIE.out]; exact HBB.out)).node j hj
          cases e
          have hgd : l.getD j dN = l[j] := by rw [List.getD_eq_getElem?_getD, List.getElem?_eq_getElem hj]; rfl
          have HIN : Aside (l.length - (j + 1) < gk) := ⟨by have := HJ.out; omega⟩
          obtain ⟨ci, _, _⟩ := ints_blk HIB.out (x := j) (by rw [HSL.out]; exact hj)
          obtain ⟨vj, hvj⟩ : ∃ vj, vj = s.getD j 0 := ⟨_, rfl⟩
          rw [← hvj] at ci
          have HV := Aside.mk hvj
          have HGd := Aside.mk hgd
          have hjj : j ≤ 16777216 := by have := HLe.out; omega
          clear hvj hgd k0 k1 k3
          generalize l[j] = X at *
          obtain ⟨xk, xl, xs, xp⟩ := X
          simp only at k2
          by_cases hq : xs ≤ vj
          · have f1 : decide (xs ≤ vj) = true := decide_eq_true hq
            have hno : rmF n l = false := by
              rw [HM2.out]
              have : (List.range l.length).all (fun i => decide (s.getD i 0 < (l.getD i dN).Size)) = false := List.all_eq_false.2 ⟨j, List.mem_range.2 hj, by rw [HGd.out, ← HV.out]; simp; omega⟩
              rw [this]
              rfl
            have HP : Aside (∀ k, MayP w (rmF n l) (.returned (.bool false)) (wr.drewN k)) := ⟨fun k => HRes.out false _ (bdrew HBB.out k) hno⟩
            clear hno hq
            go_upto_region 19 with (fail)
            go_quiet (fail)
            go_wp2
            go_ret
            exact HP.out _
          · have f1 : decide (xs ≤ vj) = false := decide_eq_false hq
            have HA2 : Aside (∀ i, i < j + 1 → s.getD i 0 < (l.getD i dN).Size) := ⟨fun i hi => by
              rcases Nat.lt_or_ge i j with q | q
              · exact HAll.out i q
              · obtain rfl : i = j := by omega
                rw [HGd.out, ← HV.out]
                simp only
                omega⟩
            clear hq
            go_upto_region 19 with (fail)
            go_quiet (fail)
            go_wp2
            go_roundg (l.length - (j + 1))
            case measure => exact HIN.out
            case rel => exact ⟨j + 1, ⟨by omega⟩, by go_num, ⟨bdrew HBB.out _⟩, ⟨HIB.out⟩, HA2⟩
        · have hall : (List.range l.length).all (fun i => decide (s.getD i 0 < (l.getD i dN).Size)) = true := List.all_eq_true.2 fun i hi => decide_eq_true (HAll.out i (by have := List.mem_range.1 hi; omega))
          replace hj : l.length ≤ j := by omega
          obtain ⟨q, hq⟩ : ∃ q, q = (al == n) := ⟨_, rfl⟩
          have hq2 : (al == n) = q := hq.symm
          have HP : Aside (MayP w (rmF n l) (.returned (.bool q)) wr) := ⟨HRes.out q wr HBB.out (by rw [HM2.out, hall, hq]; by_cases e : al = n <;> simp [e])⟩
          clear hq hall
          go_wp2
          go_ret
          exact HP.out
end Go.Proofs.YtikgdhmnnnicmaaDoor
