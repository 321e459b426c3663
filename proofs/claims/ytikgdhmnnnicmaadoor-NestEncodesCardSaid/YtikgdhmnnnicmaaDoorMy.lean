/- nest.may walked: any nodes. No condition. -/
import Derived.Test.YtikgdhmnnnicmaaDoorIb
namespace Go.Proofs.YtikgdhmnnnicmaaDoor
open Go.RowKit
def dN : Node := ⟨0, 0, 0, 0⟩
/-- A node's own numbers cannot be. -/
def badA (n : Int) (x : Node) (v : Int) : Bool := decide (x.K < 0) || decide (16777216 ≤ x.K) || decide (x.Least < 0) || decide (n ≤ x.Least) || decide (x.Size < 1) || decide (n < x.Size) || decide (x.Size ≤ v)
/-- A node does not stand behind the one ahead of it. -/
def badB (y x : Node) : Bool := decide (y.K < x.K) || (decide (x.K = y.K) && decide (x.Least ≤ y.Least))
def badC (l : List Node) (i : Nat) (x : Node) : Bool := decide (x.Parent ≤ i) || decide ((l.length : Int) ≤ x.Parent) || decide (x.K ≤ (l.getD x.Parent.toNat dN).K) || decide (x.Least < (l.getD x.Parent.toNat dN).Least)
def mayStep (n : Int) (l : List Node) (a : List Int × Int) (i : Nat) : Option (List Int × Int) :=
  if badA n (l.getD i dN) (a.1.getD i 0) = true then none
  else if 0 < i ∧ badB (l.getD (i - 1) dN) (l.getD i dN) = true then none
  else if (l.getD i dN).Parent = -1 then some (a.1, wrap64 (a.2 + (l.getD i dN).Size))
  else if badC l i (l.getD i dN) = true then none
  else some (a.1.set (l.getD i dN).Parent.toNat (wrap64 (a.1.getD (l.getD i dN).Parent.toNat 0 + (l.getD i dN).Size)), a.2)
def mayF (n : Int) (l : List Node) : Bool := match (List.range l.length).foldlM (mayStep n l) (List.replicate l.length 0, 0) with
  | some a => decide (a.2 = n)
  | none => false
theorem aside_iff (p : Prop) : Aside p ↔ p := ⟨fun h => h.out, fun h => ⟨h⟩⟩
theorem badA_cases (n : Int) (k a s p v : Int) (b : Bool) (hb : b = badA n ⟨k, a, s, p⟩ v) :
    (decide (k < 0) = true ∧ Aside (b = true)) ∨
    (decide (k < 0) = false ∧ decide (16777216 ≤ k) = true ∧ Aside (b = true)) ∨
    (decide (k < 0) = false ∧ decide (16777216 ≤ k) = false ∧ decide (a < 0) = true ∧ Aside (b = true)) ∨
    (decide (k < 0) = false ∧ decide (16777216 ≤ k) = false ∧ decide (a < 0) = false ∧ decide (n ≤ a) = true ∧ Aside (b = true)) ∨
    (decide (k < 0) = false ∧ decide (16777216 ≤ k) = false ∧ decide (a < 0) = false ∧ decide (n ≤ a) = false ∧ decide (s < 1) = true ∧ Aside (b = true)) ∨
    (decide (k < 0) = false ∧ decide (16777216 ≤ k) = false ∧ decide (a < 0) = false ∧ decide (n ≤ a) = false ∧ decide (s < 1) = false ∧ decide (n < s) = true ∧ Aside (b = true)) ∨
    (decide (k < 0) = false ∧ decide (16777216 ≤ k) = false ∧ decide (a < 0) = false ∧ decide (n ≤ a) = false ∧ decide (s < 1) = false ∧ decide (n < s) = false ∧ decide (s ≤ v) = true ∧ Aside (b = true)) ∨
    (decide (k < 0) = false ∧ decide (16777216 ≤ k) = false ∧ decide (a < 0) = false ∧ decide (n ≤ a) = false ∧ decide (s < 1) = false ∧ decide (n < s) = false ∧ decide (s ≤ v) = false ∧ Aside (b = false)) := by
  unfold badA at hb
  simp only at hb
  generalize decide (k < 0) = d1 at *
  generalize decide (16777216 ≤ k) = d2 at *
  generalize decide (a < 0) = d3 at *
  generalize decide (n ≤ a) = d4 at *
  generalize decide (s < 1) = d5 at *
  generalize decide (n < s) = d6 at *
  generalize decide (s ≤ v) = d7 at *
  subst hb
  cases d1 <;> cases d2 <;> cases d3 <;> cases d4 <;> cases d5 <;> cases d6 <;> cases d7 <;> simp [aside_iff]
theorem badB_cases (yk yl ys yp xk xl xs xp : Int) (b : Bool) (hb : b = badB ⟨yk, yl, ys, yp⟩ ⟨xk, xl, xs, xp⟩) :
    (decide (yk < xk) = true ∧ Aside (b = true)) ∨ (decide (yk < xk) = false ∧ (xk == yk) = false ∧ Aside (b = false)) ∨
    (decide (yk < xk) = false ∧ (xk == yk) = true ∧ decide (xl ≤ yl) = true ∧ Aside (b = true)) ∨ (decide (yk < xk) = false ∧ (xk == yk) = true ∧ decide (xl ≤ yl) = false ∧ Aside (b = false)) := by
  unfold badB at hb
  simp only at hb
  have e : (xk == yk) = decide (xk = yk) := rfl
  rw [e]
  generalize decide (yk < xk) = d1 at *
  generalize decide (xk = yk) = d2 at *
  generalize decide (xl ≤ yl) = d3 at *
  subst hb
  cases d1 <;> cases d2 <;> cases d3 <;> simp [aside_iff]
theorem two_cases (a b c : Bool) (h : c = (a || b)) : (a = true ∧ Aside (c = true)) ∨ (a = false ∧ b = true ∧ Aside (c = true)) ∨ (a = false ∧ b = false ∧ Aside (c = false)) := by
  subst h
  cases a <;> cases b <;> simp [aside_iff]
theorem badC_in {l : List Node} {i : Nat} {x : Node} (h : badC l i x = false) : (i : Int) < x.Parent ∧ x.Parent < l.length := by
  unfold badC at h
  simp only [Bool.or_eq_false_iff, decide_eq_false_iff_not] at h
  omega
def MayP (w : World) (b : Bool) (e : Ending) (w' : World) : Prop := e = .returned (.bool b) ∧ Below w.heap.size w w'
theorem mayStep_length {n : Int} {l : List Node} {a b : List Int × Int} {i : Nat} (h : mayStep n l a i = some b) : b.1.length = a.1.length := by
  unfold mayStep at h
  split at h
  · cases h
  · split at h
    · cases h
    · split at h
      · cases h; rfl
      · split at h
        · cases h
        · cases h; simp
set_option maxHeartbeats 8000000 in
set_option maxRecDepth 100000 in
theorem pmay_any {w : World} {ok : Nat → Prop} {v : Value} {l : List Node} (n : Int) (hs : Sl knode w ok v l) (hl : l.length ≤ 16777216) : Calls Tryd.prog 21 #[.int .i64 n, v] w (MayP w (mayF n l)) := by
  obtain ⟨A, c, rfl, hc, hm⟩ := hs.slice
  have HL : Aside (∀ W, Below w.heap.size w W → Sl knode W ok (.slice A l.length c) l) := ⟨fun W hW => hs.below hW⟩
  have hmk := run_make_row' (P := Tryd.prog) 48 3 (.int .i64 0) 8 Tryd.underlying48 Tryd.info3 rfl .i64 .i64 l.length (by omega) (by omega)
  have HLe := Aside.mk hl
  clear hs
  go_enter Tryd.func21, Tryd.ntmps21
  go_wp2
  have hib : (w.alloc (.cells (madeCells #[.int .i64 0] l.length) 3)).heap[w.heap.size]? = some (.cells (ints (List.replicate l.length 0)).toArray 3 (0, 0)) := by
    rw [heap_alloc_new, toList_made_ints]
  have hbb := (Below.refl w.heap.size w).alloc (Nat.le_refl _) (.cells (madeCells #[.int .i64 0] l.length) 3)
  obtain ⟨ib, hibe⟩ : ∃ ib, ib = w.heap.size := ⟨_, rfl⟩
  rw [← hibe] at hib hbb ⊢
  generalize w.alloc (.cells (madeCells #[.int .i64 0] l.length) 3) = w1 at *
  have HIB := Aside.mk hib
  have HBB := Aside.mk hbb
  have HIE := Aside.mk hibe
  have HF : Aside (((List.range l.length).drop 0).foldlM (mayStep n l) (List.replicate l.length 0, 0) = (List.range l.length).foldlM (mayStep n l) (List.replicate l.length 0, 0)) := ⟨by rw [List.drop_zero]⟩
  have HIL : Aside ((List.replicate l.length (0 : Int)).length = l.length) := ⟨by simp⟩
  have HRes : Aside (∀ (b : Bool) (W : World), Below ib w W → (mayF n l = b) → MayP w (mayF n l) (.returned (.bool b)) W) := ⟨fun b W hW e => ⟨by rw [e], by rw [← HIE.out]; exact hW⟩⟩
  have HMay : Aside (∀ r, (List.range l.length).foldlM (mayStep n l) (List.replicate l.length 0, 0) = r → mayF n l = match r with | some a => decide (a.2 = n) | none => false) := ⟨fun r e => by unfold mayF; rw [e]⟩
  generalize (List.range l.length).foldlM (mayStep n l) (List.replicate l.length 0, 0) = R at *
  clear hib hbb hibe hmk
  go_loopg [6, 14] l.length (fun kq v6 v14 wr => ∃ (i : Nat) (s : List Int) (al : Int), Aside (i + kq = l.length) ∧ v14 = .int .i64 i ∧ v6 = .int .i64 al ∧ Aside (((List.range l.length).drop i).foldlM (mayStep n l) (s, al) = R) ∧ Aside (s.length = l.length) ∧ Aside (Below ib w wr) ∧ Aside (wr.heap[ib]? = some (.cells (ints s).toArray 3 (0, 0))))
  case atStart => exact ⟨0, _, 0, ⟨by omega⟩, rfl, rfl, HF, HIL, HBB, HIB⟩
  case round =>
    clear HIB HBB HF HIL
    obtain ⟨i, s, al, HI, rfl, rfl, HF, HSL, HBB, HIB⟩ := hrel
    by_cases hi : i < l.length
    · obtain ⟨b, o, e, k0, k1, k2, k3⟩ := (HL.out wr (by rw [← HIE.out]; exact HBB.out)).node i hi
      cases e
      have hf := HF.out
      rw [List.drop_eq_getElem_cons (by simpa using hi), List.getElem_range, List.foldlM_cons] at hf
      have hgd : l.getD i dN = l[i] := by rw [List.getD_eq_getElem?_getD, List.getElem?_eq_getElem hi]; rfl
      have hstep : mayStep n l (s, al) i = (if badA n l[i] (s.getD i 0) = true then none else if 0 < i ∧ badB (l.getD (i - 1) dN) l[i] = true then none else if l[i].Parent = -1 then some (s, wrap64 (al + l[i].Size)) else if badC l i l[i] = true then none else some (s.set l[i].Parent.toNat (wrap64 (s.getD l[i].Parent.toNat 0 + l[i].Size)), al)) := by
        unfold mayStep
        rw [hgd]
      rw [hstep] at hf
      have HF1 := Aside.mk hf
      have HIN : Aside (l.length - (i + 1) < gk) := ⟨by have := HI.out; omega⟩
      have hii : i ≤ 16777216 := by have := HLe.out; omega
      clear hf HF hgd hstep
      generalize l[i] = X at *
      obtain ⟨xk, xl, xs, xp⟩ := X
      simp only at k0 k1 k2 k3
      go_upto_region 6 with (fail)
      have q0 : (wr.alloc (.cells #[.int .i64 xk, .int .i64 xl, .int .i64 xs, .int .i64 xp] 27)).cell? ⟨wr.heap.size, 0, none⟩ = some (.int .i64 xk) := cell_blk (heap_alloc_new _ _) rfl
      have q1 : (wr.alloc (.cells #[.int .i64 xk, .int .i64 xl, .int .i64 xs, .int .i64 xp] 27)).cell? ⟨wr.heap.size, 1, none⟩ = some (.int .i64 xl) := cell_blk (heap_alloc_new _ _) rfl
      have q2 : (wr.alloc (.cells #[.int .i64 xk, .int .i64 xl, .int .i64 xs, .int .i64 xp] 27)).cell? ⟨wr.heap.size, 2, none⟩ = some (.int .i64 xs) := cell_blk (heap_alloc_new _ _) rfl
      have q3 : (wr.alloc (.cells #[.int .i64 xk, .int .i64 xl, .int .i64 xs, .int .i64 xp] 27)).cell? ⟨wr.heap.size, 3, none⟩ = some (.int .i64 xp) := cell_blk (heap_alloc_new _ _) rfl
      have hbA := (Below.refl wr.heap.size wr).alloc (Nat.le_refl _) (.cells #[.int .i64 xk, .int .i64 xl, .int .i64 xs, .int .i64 xp] 27)
      have hsz : ib ≤ wr.heap.size := by have := HBB.out.size; have := HIE.out; omega
      have HB1 := Aside.mk (HBB.out.trans (hbA.mono hsz))
      have HI1 := Aside.mk (bblk hbA HIB.out)
      obtain ⟨xb, hxb⟩ : ∃ xb, xb = wr.heap.size := ⟨_, rfl⟩
      rw [← hxb] at q0 q1 q2 q3 ⊢
      generalize wr.alloc (.cells #[.int .i64 xk, .int .i64 xl, .int .i64 xs, .int .i64 xp] 27) = W1 at *
      obtain ⟨ci, _, _⟩ := ints_blk HI1.out (x := i) (by rw [HSL.out]; exact hi)
      generalize s.getD i 0 = vi at *
      clear k0 k1 k2 k3 HBB HIB hbA hsz hxb
      have HbA : Aside (∀ q, badA n ⟨xk, xl, xs, xp⟩ vi = q → q = badA n ⟨xk, xl, xs, xp⟩ vi) := ⟨fun q e => e.symm⟩
      obtain ⟨bA, hbAe⟩ : ∃ bA, bA = badA n ⟨xk, xl, xs, xp⟩ vi := ⟨_, rfl⟩
      have HBA := Aside.mk hbAe
      clear hbAe HbA
      go_cut [57] (fun v57 wx => v57 = .bool bA ∧ Aside (Below ib w wx) ∧ Aside (wx.heap[ib]? = some (.cells (ints s).toArray 3 (0, 0))) ∧ wx.cell? ⟨xb, 2, none⟩ = some (.int .i64 xs) ∧ wx.cell? ⟨xb, 0, none⟩ = some (.int .i64 xk) ∧ wx.cell? ⟨xb, 1, none⟩ = some (.int .i64 xl) ∧ wx.cell? ⟨xb, 3, none⟩ = some (.int .i64 xp))
      case first =>
        rcases badA_cases n xk xl xs xp vi bA HBA.out with ⟨f1, HA⟩ | ⟨f1, f2, HA⟩ | ⟨f1, f2, f3, HA⟩ | ⟨f1, f2, f3, f4, HA⟩ | ⟨f1, f2, f3, f4, f5, HA⟩ | ⟨f1, f2, f3, f4, f5, f6, HA⟩ | ⟨f1, f2, f3, f4, f5, f6, f7, HA⟩ | ⟨f1, f2, f3, f4, f5, f6, f7, HA⟩ <;> (go_quiet (fail); go_wp2; go_meet; case rel => exact ⟨by rw [HA.out], ⟨bdrew HB1.out _⟩, ⟨HI1.out⟩, by simpa using q2, by simpa using q0, by simpa using q1, by simpa using q3⟩)
      case rest =>
        obtain ⟨rfl, HB5, HI5, q2', q0', q1', q3'⟩ := hcut
        clear q0 q1 q2 q3 HB1 HI1
        obtain ⟨w5, rfl⟩ : ∃ w5, w5 = wc := ⟨_, rfl⟩
        cases bA with
        | true =>
          have hr : R = none := by have h := HF1.out; rw [if_pos HBA.out.symm] at h; exact h.symm
          have HP : Aside (MayP w (mayF n l) (.returned (.bool false)) w5) := ⟨HRes.out false w5 HB5.out (HMay.out none hr)⟩
          clear hr
          go_wp2
          go_ret
          exact HP.out
        | false =>
          have hf := HF1.out
          rw [if_neg (by rw [← HBA.out]; decide)] at hf
          have HF2 := Aside.mk hf
          clear hf HF1 HBA ci
          obtain ⟨bB, hbBe⟩ : ∃ bB, bB = decide (0 < i ∧ badB (l.getD (i - 1) dN) ⟨xk, xl, xs, xp⟩ = true) := ⟨_, rfl⟩
          have HBB := Aside.mk hbBe
          clear hbBe
          go_upto_region 8 with (fail)
          go_cut [92] (fun v92 wx => v92 = .bool bB ∧ Aside (Below ib w wx) ∧ Aside (wx.heap[ib]? = some (.cells (ints s).toArray 3 (0, 0))) ∧ wx.cell? ⟨xb, 2, none⟩ = some (.int .i64 xs) ∧ wx.cell? ⟨xb, 0, none⟩ = some (.int .i64 xk) ∧ wx.cell? ⟨xb, 1, none⟩ = some (.int .i64 xl) ∧ wx.cell? ⟨xb, 3, none⟩ = some (.int .i64 xp))
          case first =>
            by_cases h0 : 0 < i
            · obtain ⟨j, rfl⟩ : ∃ j, i = j + 1 := ⟨i - 1, by omega⟩
              have hjl : j < l.length := by omega
              obtain ⟨b', o', e, p0, p1, p2, p3⟩ := (HL.out w5 (by rw [← HIE.out]; exact HB5.out)).node j hjl
              cases e
              have hgd : l.getD (j + 1 - 1) dN = l[j] := by rw [Nat.add_sub_cancel, List.getD_eq_getElem?_getD, List.getElem?_eq_getElem hjl]; rfl
              have HB6 : Aside (bB = badB l[j] ⟨xk, xl, xs, xp⟩) := ⟨by rw [HBB.out, hgd]; simp⟩
              clear hgd HBB h0
              generalize l[j] = Y at *
              obtain ⟨yk, yl, ys, yp⟩ := Y
              simp only at p0 p1
              have f0 : decide (0 < j + 1) = true := decide_eq_true (by omega)
              have f00 : decide ((0 : Int) < ((j + 1 : Nat) : Int)) = true := decide_eq_true (by omega)
              have hij : ((j + 1 : Nat) : Int) - 1 = (j : Int) := by omega
              clear p2 p3
              rcases badB_cases yk yl ys yp xk xl xs xp bB HB6.out with ⟨f1, HB7⟩ | ⟨f1, f2, HB7⟩ | ⟨f1, f2, f3, HB7⟩ | ⟨f1, f2, f3, HB7⟩ <;> (go_quiet (fail); go_wp2; go_meet; case rel => exact ⟨by rw [HB7.out], ⟨bdrew HB5.out _⟩, ⟨HI5.out⟩, by simpa using q2', by simpa using q0', by simpa using q1', by simpa using q3'⟩)
            · have hi0 : i = 0 := by omega
              subst hi0
              have HB7 : Aside (bB = false) := ⟨by rw [HBB.out]; simp⟩
              clear HBB h0
              go_quiet (fail)
              go_wp2
              go_meet
              case rel => exact ⟨by rw [HB7.out], ⟨bdrew HB5.out _⟩, ⟨HI5.out⟩, by simpa using q2', by simpa using q0', by simpa using q1', by simpa using q3'⟩
          case rest =>
            obtain ⟨rfl, HB8, HI8, r2, r0, r1, r3⟩ := hcut
            clear q2' q0' q1' q3' HB5 HI5
            obtain ⟨w6, rfl⟩ : ∃ w6, w6 = wc := ⟨_, rfl⟩
            cases bB with
            | true =>
              have hr : R = none := by have h := HF2.out; rw [if_pos (of_decide_eq_true HBB.out.symm)] at h; exact h.symm
              have HP : Aside (MayP w (mayF n l) (.returned (.bool false)) w6) := ⟨HRes.out false w6 HB8.out (HMay.out none hr)⟩
              clear hr
              go_wp2
              go_ret
              exact HP.out
            | false =>
              have hf := HF2.out
              rw [if_neg (of_decide_eq_false HBB.out.symm)] at hf
              by_cases hp : xp = -1
              · subst hp
                rw [if_pos rfl] at hf
                have HF4 : Aside (((List.range l.length).drop (i + 1)).foldlM (mayStep n l) (s, wrap64 (al + xs)) = R) := ⟨hf⟩
                clear hf HF2 HBB
                go_wp2
                go_roundg (l.length - (i + 1))
                case measure => exact HIN.out
                case rel => exact ⟨i + 1, s, _, ⟨by omega⟩, by go_num, rfl, HF4, HSL, HB8, HI8⟩
              · rw [if_neg hp] at hf
                have HF3 := Aside.mk hf
                have hpe : (xp == -1) = false := by simp [hp]
                clear hf HF2 HBB hp
                obtain ⟨bC, hbCe⟩ : ∃ bC, bC = badC l i ⟨xk, xl, xs, xp⟩ := ⟨_, rfl⟩
                have HBC := Aside.mk hbCe
                clear hbCe
                go_upto_region 12 with (fail)
                clear hpe
                go_cut [132] (fun v132 wx => v132 = .bool bC ∧ Aside (Below ib w wx) ∧ Aside (wx.heap[ib]? = some (.cells (ints s).toArray 3 (0, 0))) ∧ wx.cell? ⟨xb, 2, none⟩ = some (.int .i64 xs) ∧ wx.cell? ⟨xb, 0, none⟩ = some (.int .i64 xk) ∧ wx.cell? ⟨xb, 1, none⟩ = some (.int .i64 xl) ∧ wx.cell? ⟨xb, 3, none⟩ = some (.int .i64 xp))
                case first =>
                  by_cases c1 : xp ≤ i
                  · have f1 : decide (xp ≤ i) = true := decide_eq_true c1
                    have HC : Aside (bC = true) := ⟨by rw [HBC.out]; unfold badC; simp [c1]⟩
                    clear c1
                    go_quiet (fail)
                    go_wp2
                    go_meet
                    case rel => exact ⟨by rw [HC.out], ⟨bdrew HB8.out _⟩, ⟨HI8.out⟩, by simpa using r2, by simpa using r0, by simpa using r1, by simpa using r3⟩
                  · by_cases c2 : (l.length : Int) ≤ xp
                    · have f1 : decide (xp ≤ i) = false := decide_eq_false c1
                      have f2 : decide ((l.length : Int) ≤ xp) = true := decide_eq_true c2
                      have HC : Aside (bC = true) := ⟨by rw [HBC.out]; unfold badC; simp [c2]⟩
                      clear c1 c2
                      go_quiet (fail)
                      go_wp2
                      go_meet
                      case rel => exact ⟨by rw [HC.out], ⟨bdrew HB8.out _⟩, ⟨HI8.out⟩, by simpa using r2, by simpa using r0, by simpa using r1, by simpa using r3⟩
                    · obtain ⟨p, rfl⟩ : ∃ p : Nat, xp = (p : Int) := ⟨xp.toNat, by omega⟩
                      have hpl : p < l.length := by omega
                      obtain ⟨b', o', e, p0, p1, p2, p3⟩ := (HL.out w6 (by rw [← HIE.out]; exact HB8.out)).node p hpl
                      cases e
                      have g1 : decide ((p : Int) ≤ (i : Int)) = false := decide_eq_false c1
                      have g1' : decide (p ≤ i) = false := decide_eq_false (by omega)
                      have g2 : decide ((l.length : Int) ≤ (p : Int)) = false := decide_eq_false c2
                      have g2' : decide (l.length ≤ p) = false := decide_eq_false (by omega)
                      have hgd : l.getD (p : Int).toNat dN = l[p] := by rw [Int.toNat_natCast, List.getD_eq_getElem?_getD, List.getElem?_eq_getElem hpl]; rfl
                      have HC6 : Aside (bC = (decide (xk ≤ l[p].K) || decide (xl < l[p].Least))) := ⟨by rw [HBC.out]; unfold badC; rw [hgd]; simp [g1', g2']⟩
                      clear hgd HBC c1 c2
                      generalize l[p] = Y at *
                      obtain ⟨yk, yl, ys, yp⟩ := Y
                      simp only at p0 p1
                      clear p2 p3
                      rcases two_cases _ _ _ HC6.out with ⟨f1, HC⟩ | ⟨f1, f2, HC⟩ | ⟨f1, f2, HC⟩ <;> (go_quiet (fail); go_wp2; go_meet; case rel => exact ⟨by rw [HC.out], ⟨bdrew HB8.out _⟩, ⟨HI8.out⟩, by simpa using r2, by simpa using r0, by simpa using r1, by simpa using r3⟩)
                case rest =>
                  obtain ⟨rfl, HB9, HI9, s2, s0, s1, s3⟩ := hcut
                  clear r2 r0 r1 r3 HB8 HI8
                  obtain ⟨w7, rfl⟩ : ∃ w7, w7 = wc := ⟨_, rfl⟩
                  cases bC with
                  | true =>
                    have hr : R = none := by have h := HF3.out; rw [if_pos HBC.out.symm] at h; exact h.symm
                    have HP : Aside (MayP w (mayF n l) (.returned (.bool false)) w7) := ⟨HRes.out false w7 HB9.out (HMay.out none hr)⟩
                    clear hr
                    go_wp2
                    go_ret
                    exact HP.out
                  | false =>
                    have hf := HF3.out
                    rw [if_neg (by rw [← HBC.out]; decide)] at hf
                    obtain ⟨c1, c2⟩ := badC_in HBC.out.symm
                    simp only at c1 c2
                    obtain ⟨p, rfl⟩ : ∃ p : Nat, xp = (p : Int) := ⟨xp.toNat, by omega⟩
                    have hpl : p < s.length := by have := HSL.out; omega
                    rw [Int.toNat_natCast] at hf
                    obtain ⟨cp, fp, hst⟩ := ints_blk HI9.out (x := p) hpl
                    generalize s.getD p 0 = vp at *
                    have HF4 : Aside (((List.range l.length).drop (i + 1)).foldlM (mayStep n l) (s.set p (wrap64 (vp + xs)), al) = R) := ⟨hf⟩
                    have HST := Aside.mk hst
                    have HSP : Aside ((s.set p (wrap64 (vp + xs))).length = l.length) := ⟨by rw [List.length_set]; exact HSL.out⟩
                    have hsl : s.length = l.length := HSL.out
                    have hpl' : p < l.length := by omega
                    have hpb : p ≤ 16777216 := by have := HLe.out; omega
                    clear hf HF3 HBC hst hpl hsl c1 c2
                    go_upto_region 14 with (fail)
                    go_region
                    go_wp2
                    go_roundg (l.length - (i + 1))
                    case measure => exact HIN.out
                    case rel => exact ⟨i + 1, _, al, ⟨by omega⟩, by go_num, rfl, HF4, HSP, ⟨(bdrew HB9.out _).setCell (Nat.le_refl _) _⟩, ⟨HST.out _⟩⟩
    · have hie : i = l.length := by have := HI.out; omega
      have hf := HF.out
      rw [List.drop_of_length_le (by simp; omega)] at hf
      have hf : some (s, al) = R := hf
      have hmay := HMay.out _ hf.symm
      simp only at hmay
      replace hi : l.length ≤ i := by omega
      obtain ⟨q, hq⟩ : ∃ q, q = (al == n) := ⟨_, rfl⟩
      have hq2 : (al == n) = q := hq.symm
      have HP : Aside (MayP w (mayF n l) (.returned (.bool q)) wr) := ⟨HRes.out q wr HBB.out (by rw [hmay, hq]; by_cases e : al = n <;> simp [e])⟩
      clear hf HF hmay hq hie
      go_wp2
      go_ret
      exact HP.out
end Go.Proofs.YtikgdhmnnnicmaaDoor
