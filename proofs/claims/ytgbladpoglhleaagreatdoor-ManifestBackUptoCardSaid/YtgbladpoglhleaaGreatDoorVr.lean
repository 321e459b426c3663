/- varint's reader walked: NewReader, Left, Int, Err. No condition. -/
import Derived.Test.YtgbladpoglhleaaGreatDoorVf
import Derived.Test.YtgbladpoglhleaaGreatDoorRg
import Derived.Test.YtgbladpoglhleaaGreatDoorHl
namespace Go.Proofs.YtgbladpoglhleaaGreatDoor
open Go.RowKit
theorem Sl.drop {α : Type} {K : Kind α} {w : World} {ok : Nat → Prop} {b o n c i : Nat} {xs : List α} (h : Sl K w ok (.slice (some ⟨b, o, none⟩) n c) xs) (hi : i ≤ xs.length) : Sl K w ok (.slice (some ⟨b, o + i * K.sz, none⟩) (xs.length - i) (c - i)) (xs.drop i) := by
  obtain ⟨A, c', e, h1, h2, h3⟩ := h
  cases e
  have hml : (xs.drop i).length = xs.length - i := by simp
  refine ⟨_, c - i, by rw [hml], by omega, by omega, fun h0 => ?_⟩
  obtain ⟨b', o', e, h4, h5, h6⟩ := h3 (by omega)
  cases e
  refine ⟨b, o + i * K.sz, rfl, h4, h5, fun j x hj => ?_⟩
  rw [List.getElem?_drop] at hj
  obtain ⟨cs, hr, hcs⟩ := h6 (i + j) x hj
  refine ⟨cs, hr, fun k u hk => ?_⟩
  have := hcs k u hk
  rw [Nat.add_mul] at this
  rw [← Nat.add_assoc o] at this
  exact this
/-- A reader in the box R: its bytes, its place, its error. -/
structure Rd (lo : Nat) (W : World) (R : Nat) (bv : Value) (bs : List UInt8) (at_ : Nat) (err : Int) : Prop where
  box : W.heap[R]? = some (.cells #[bv, .int .i64 at_, .int .i64 err] 155 (0, 0))
  own : W.ownsRow lo 5 1 bv bs.length (u8s bs)
  ne : bv.ownBlock ≠ some R
  lo : lo ≤ R
  le : at_ ≤ bs.length
theorem vgo_le : ∀ (f x i : Nat) (bs : List UInt8) (y n : Nat), vgo f x i bs = some (y, n) → i < n ∧ n ≤ i + bs.length ∧ n ≤ i + f
  | 0, _, _, _, _, _, h => by simp [vgo] at h
  | f + 1, x, i, [], _, _, h => by simp [vgo] at h
  | f + 1, x, i, c :: r, y, n, h => by
    rw [vgo] at h
    split at h
    · cases h
      simp only [List.length_cons]
      omega
    · have := vgo_le f _ (i + 1) r y n h
      simp only [List.length_cons]
      omega
theorem vread_le {bs : List UInt8} {x n : Nat} (h : vread bs = some (x, n)) : 0 < n ∧ n ≤ bs.length ∧ n ≤ 9 := by
  unfold vread at h
  split at h
  · cases h
  · have := vgo_le 9 0 0 bs x n h
    omega
theorem vgo_small : ∀ (f x i : Nat) (bs : List UInt8) (y n : Nat), x < 128 ^ i → vgo f x i bs = some (y, n) → y < 128 ^ n
  | 0, _, _, _, _, _, _, h => by simp [vgo] at h
  | f + 1, x, i, [], _, _, _, h => by simp [vgo] at h
  | f + 1, x, i, c :: r, y, n, hx, h => by
    have e : 128 ^ (i + 1) = 128 ^ i * 128 := Nat.pow_succ 128 i
    rw [vgo] at h
    split at h
    · cases h
      omega
    · exact vgo_small f _ (i + 1) r y n (by have := Nat.mod_lt c.toNat (show 0 < 128 by decide); omega) h
theorem vread_small {bs : List UInt8} {x n : Nat} (h : vread bs = some (x, n)) : x < 9223372036854775808 := by
  have h9 := (vread_le h).2.2
  unfold vread at h
  split at h
  · cases h
  · have h1 := vgo_small 9 0 0 bs x n (by simp) h
    have h2 : 128 ^ n ≤ 128 ^ 9 := Nat.pow_le_pow_right (by omega) h9
    have h3 : (128 : Nat) ^ 9 = 9223372036854775808 := by decide
    omega
theorem Rd.turn {lo : Nat} {w : World} {R : Nat} {bv : Value} {bs : List UInt8} {at_ : Nat} {err : Int} (h : Rd lo w R bv bs at_ err) (p : Nat) (c : Int) (hp : p ≤ bs.length) :
    Rd lo ((w.setCell ⟨R, 1, none⟩ (.int .i64 p)).setCell ⟨R, 2, none⟩ (.int .i64 c)).drew R bv bs p c ∧ ((w.setCell ⟨R, 1, none⟩ (.int .i64 p)).setCell ⟨R, 2, none⟩ (.int .i64 c)).drew.heap.size = w.heap.size ∧
      (∀ q, q ≠ R → ((w.setCell ⟨R, 1, none⟩ (.int .i64 p)).setCell ⟨R, 2, none⟩ (.int .i64 c)).drew.heap[q]? = w.heap[q]?) ∧ ((w.setCell ⟨R, 1, none⟩ (.int .i64 p)).setCell ⟨R, 2, none⟩ (.int .i64 c)).drew.os = w.os ∧
      ((w.setCell ⟨R, 1, none⟩ (.int .i64 p)).setCell ⟨R, 2, none⟩ (.int .i64 c)).drew.tape = w.tape ∧ ((w.setCell ⟨R, 1, none⟩ (.int .i64 p)).setCell ⟨R, 2, none⟩ (.int .i64 c)).drew.output = w.output := by
  have hfar : ∀ q, q ≠ R → ((w.setCell ⟨R, 1, none⟩ (.int .i64 p)).setCell ⟨R, 2, none⟩ (.int .i64 c)).drew.heap[q]? = w.heap[q]? := fun q hq => by
    show ((w.setCell ⟨R, 1, none⟩ (.int .i64 p)).setCell ⟨R, 2, none⟩ (.int .i64 c)).heap[q]? = _
    rw [Below.heap_setCell _ _ _ _ hq, Below.heap_setCell _ _ _ _ hq]
  refine ⟨⟨?_, ownsRow_move h.own fun q e => hfar q (fun e2 => h.ne (e2 ▸ e)), h.ne, h.lo, hp⟩, ?_, hfar, rfl, rfl, rfl⟩
  · exact Lib.heap_setCell_same (Lib.heap_setCell_same h.box _) _
  · show ((w.setCell ⟨R, 1, none⟩ (.int .i64 p)).setCell ⟨R, 2, none⟩ (.int .i64 c)).heap.size = _
    simp
theorem three {w : World} {g : Nat} {t : TypeId} {a b c : Value} (h : w.heap[g]? = some (.cells #[a, b, c] t (0, 0))) :
    w.cell? ⟨g, 0, none⟩ = some a ∧ w.cell? ⟨g, 1, none⟩ = some b ∧ w.cell? ⟨g, 2, none⟩ = some c :=
  ⟨(store_at h 0 (show 0 < 3 by decide)).1, (store_at h 1 (show 1 < 3 by decide)).1, (store_at h 2 (show 2 < 3 by decide)).1⟩
set_option maxHeartbeats 2000000 in
set_option maxRecDepth 100000 in
theorem newReader_any {w : World} {ok : Nat → Prop} {v : Value} {bs : List UInt8} (hs : Sl kbyte w ok v bs) (hl : bs.length ≤ 1099511627776) :
    Calls Tryz.prog 90 #[v] w fun e w' => ∃ R bv, e = .returned (.pointer (some ⟨R, 0, none⟩)) ∧ Rd w.heap.size w' R bv bs 0 0 ∧ Below w.heap.size w w' := by
  obtain ⟨A, c, rfl, hc, hm⟩ := hs.slice
  have hcall := grown_any 0 (by omega) hs hl
  clear hs
  go_enter Tryz.func90, Tryz.ntmps90
  go_wp2_with fail
  refine hcall.mono ?_
  clear hcall
  rintro e w2 ⟨bv, rfl, ho, hb⟩
  have HP : Aside (∃ R v, Ending.returned (.pointer (some ⟨w2.heap.size, 0, none⟩)) = .returned (.pointer (some ⟨R, 0, none⟩)) ∧ Rd w.heap.size (w2.alloc (.cells #[bv, .int .i64 0, .int .i64 0] 155)) R v bs 0 0 ∧ Below w.heap.size w (w2.alloc (.cells #[bv, .int .i64 0, .int .i64 0] 155))) :=
    ⟨w2.heap.size, bv, rfl, ⟨heap_alloc_new _ _, ho.alloc _, fun e => by have := (ho.lt _ e).2; omega, hb.size, Nat.zero_le _⟩, hb.alloc hb.size _⟩
  obtain ⟨A2, m2, c2, rfl⟩ := own_slice ho
  clear ho hb
  go_wp2_with fail
  go_ret
  exact HP.out
set_option maxHeartbeats 2000000 in
set_option maxRecDepth 100000 in
theorem left_any {w : World} {lo R at_ : Nat} {bv : Value} {bs : List UInt8} {err : Int} (h : Rd lo w R bv bs at_ err) :
    Calls Tryz.prog 91 #[.pointer (some ⟨R, 0, none⟩)] w fun e w' => e = .returned (.int .i64 (if err = 0 then (bs.length : Int) - (at_ : Int) else 0)) ∧ ∃ q, w' = w.drewN q := by
  obtain ⟨k0, k1, k2⟩ := three h.box
  have hle := h.le
  have hcs := (own_u8s h.own).sl
  obtain ⟨A, c, rfl, _⟩ := hcs.slice
  clear h hcs
  by_cases he : err = 0
  · subst he
    go_enter Tryz.func91, Tryz.ntmps91
    go_wp2_with fail
    go_region
    all_goals go_wp2
    all_goals go_ret
    all_goals exact ⟨by simp, 1, rfl⟩
  · have hb : (err == 0) = false := beq_false_of_ne he
    have hb2 : (err != 0) = true := by simp [he]
    rw [if_neg he]
    go_enter Tryz.func91, Tryz.ntmps91
    go_wp2_with fail
    go_ret
    exact ⟨rfl, 0, rfl⟩
set_option maxHeartbeats 2000000 in
set_option maxRecDepth 100000 in
theorem err_any {w : World} {lo R at_ : Nat} {bv : Value} {bs : List UInt8} {err : Int} (h : Rd lo w R bv bs at_ err) :
    Calls Tryz.prog 93 #[.pointer (some ⟨R, 0, none⟩)] w fun e w' => e = .returned (.tuple #[.int .i64 err, .int .i64 at_]) ∧ ∃ q, w' = w.drewN q := by
  obtain ⟨k0, k1, k2⟩ := three h.box
  clear h
  go_enter Tryz.func93, Tryz.ntmps93
  go_wp2_with fail
  go_region
  all_goals go_wp2
  all_goals exact bodyPost_ret (by simp [results, Tryz.results93, go_sem]) rfl ⟨rfl, 1, rfl⟩
set_option maxHeartbeats 2000000 in
set_option maxRecDepth 100000 in
theorem int_any {w : World} {lo R at_ : Nat} {bv : Value} {bs : List UInt8} (h : Rd lo w R bv bs at_ 0) (hlt : at_ < bs.length) :
    Calls Tryz.prog 92 #[.pointer (some ⟨R, 0, none⟩)] w fun e w' =>
      (∀ x n, vread (bs.drop at_) = some (x, n) → e = .returned (.int .i64 (x : Nat)) ∧ Rd lo w' R bv bs (at_ + n) 0) ∧
      (vread (bs.drop at_) = none → e = .returned (.int .i64 0) ∧ ∃ c : Int, c ≠ 0 ∧ Rd lo w' R bv bs at_ c) ∧ w'.heap.size = w.heap.size ∧ (∀ q, q ≠ R → w'.heap[q]? = w.heap[q]?) ∧ w'.os = w.os ∧ w'.tape = w.tape ∧ w'.output = w.output := by
  obtain ⟨k0, k1, k2⟩ := three h.box
  have hle := h.le
  have hcs := (own_u8s h.own).sl
  obtain ⟨A, c, rfl, _⟩ := hcs.slice
  have HR := Aside.mk h
  clear h
  rcases A with _ | ⟨b, o, u⟩
  · rcases HR.out.own.2 with ⟨_, e⟩ | ⟨g, cap, cur, e, _⟩
    · omega
    · cases e
  · have hu : u = none := by
      rcases HR.out.own.2 with ⟨e, _⟩ | ⟨g, cap, cur, e, _⟩
      · cases e
      · cases e; rfl
    subst hu
    have hf := form_any (Sl.drop (w := w.drew) (ok := fun x => lo ≤ x) (b := b) (o := o) (n := bs.length) (c := c) (hcs.move fun _ _ => rfl) hle)
    simp only [kbyte, flat, Nat.mul_one] at hf
    have HF := Aside.mk hf
    clear hcs hf
    have hatc : ¬ (c = at_) := by omega
    have hbl := store_at HR.out.box 0 (show 0 < 3 by decide)
    have hbf1 := (store_at HR.out.box 1 (show 1 < 3 by decide)).2.1
    have hbf2 := (store_at HR.out.box 2 (show 2 < 3 by decide)).2.1
    have hS0 : w.drew.cell? ⟨R, 0, none⟩ = some (.slice (some ⟨b, o, none⟩) bs.length c) ∧ w.drew.cell? ⟨R, 1, none⟩ = some (.int .i64 at_) := ⟨k0, k1⟩
    have hS0 : w.drew.cell? ⟨R, 0, none⟩ = some (.slice (some ⟨b, o, none⟩) bs.length c) ∧ w.drew.cell? ⟨R, 1, none⟩ = some (.int .i64 at_) := ⟨k0, k1⟩
    cases hv : vread (bs.drop at_) with
    | none =>
      go_enter Tryz.func92, Tryz.ntmps92
      go_upto_region 3 with (fail)
      refine wp_region_X 16 (fun w' => w'.cell? ⟨R, 0, none⟩ = some (.slice (some ⟨b, o, none⟩) bs.length c) ∧ w'.cell? ⟨R, 1, none⟩ = some (.int .i64 at_)) (by kernel_rfl) ?_
      refine wpAnyX_take (i := 0) (oi := ⟨some 12, .move (.tmp 0), _, _, _, _⟩) (v := .pointer (some ⟨R, 0, none⟩)) rfl (by kernel_rfl) (by kernel_rfl) (by kernel_rfl) (by kernel_rfl) (fun _ _ _ h => h) (Or.inl ⟨by rfl, ?_⟩) hS0 ?_
      · intro w' hSw
        first | (go_simp; done) | (go_simp; rfl)
      simp only [Act.put, List.setIfInBounds_toArray, List.set_cons_zero, List.set_cons_succ]
      refine wpAnyX_take (i := 1) (oi := ⟨some 13, .nilCheck (.tmp 12), _, _, _, _⟩) (v := .pointer (some ⟨R, 0, none⟩)) rfl (by kernel_rfl) (by kernel_rfl) (by kernel_rfl) (by kernel_rfl) (fun _ _ _ h => h) (Or.inl ⟨by rfl, ?_⟩) hS0 ?_
      · intro w' hSw
        first | (go_simp; done) | (go_simp; rfl)
      simp only [Act.put, List.setIfInBounds_toArray, List.set_cons_zero, List.set_cons_succ]
      refine wpAnyX_take (i := 2) (oi := ⟨some 14, .fieldAddr 155 (.tmp 13) 0, _, _, _, _⟩) (v := .pointer (some ⟨R, 0, none⟩)) rfl (by kernel_rfl) (by kernel_rfl) (by kernel_rfl) (by kernel_rfl) (fun _ _ _ h => h) (Or.inl ⟨by rfl, ?_⟩) hS0 ?_
      · intro w' hSw
        first | (go_simp; done) | (go_simp; rfl)
      simp only [Act.put, List.setIfInBounds_toArray, List.set_cons_zero, List.set_cons_succ]
      refine wpAnyX_take (i := 3) (oi := ⟨some 15, .load 44 (.tmp 14), _, _, _, _⟩) (v := .slice (some ⟨b, o, none⟩) bs.length c) rfl (by kernel_rfl) (by kernel_rfl) (by kernel_rfl) (by kernel_rfl) (fun _ _ _ h => h) (Or.inl ⟨by rfl, ?_⟩) hS0 ?_
      · intro w' hSw
        first | (go_simp; done) | (go_simp; rfl)
      simp only [Act.put, List.setIfInBounds_toArray, List.set_cons_zero, List.set_cons_succ]
      refine wpAnyX_take (i := 4) (oi := ⟨some 16, .move (.tmp 0), _, _, _, _⟩) (v := .pointer (some ⟨R, 0, none⟩)) rfl (by kernel_rfl) (by kernel_rfl) (by kernel_rfl) (by kernel_rfl) (fun _ _ _ h => h) (Or.inl ⟨by rfl, ?_⟩) hS0 ?_
      · intro w' hSw
        first | (go_simp; done) | (go_simp; rfl)
      simp only [Act.put, List.setIfInBounds_toArray, List.set_cons_zero, List.set_cons_succ]
      refine wpAnyX_take (i := 5) (oi := ⟨some 17, .nilCheck (.tmp 16), _, _, _, _⟩) (v := .pointer (some ⟨R, 0, none⟩)) rfl (by kernel_rfl) (by kernel_rfl) (by kernel_rfl) (by kernel_rfl) (fun _ _ _ h => h) (Or.inl ⟨by rfl, ?_⟩) hS0 ?_
      · intro w' hSw
        first | (go_simp; done) | (go_simp; rfl)
      simp only [Act.put, List.setIfInBounds_toArray, List.set_cons_zero, List.set_cons_succ]
      refine wpAnyX_take (i := 6) (oi := ⟨some 18, .fieldAddr 155 (.tmp 17) 1, _, _, _, _⟩) (v := .pointer (some ⟨R, 1, none⟩)) rfl (by kernel_rfl) (by kernel_rfl) (by kernel_rfl) (by kernel_rfl) (fun _ _ _ h => h) (Or.inl ⟨by rfl, ?_⟩) hS0 ?_
      · intro w' hSw
        first | (go_simp; done) | (go_simp; rfl)
      simp only [Act.put, List.setIfInBounds_toArray, List.set_cons_zero, List.set_cons_succ]
      refine wpAnyX_take (i := 7) (oi := ⟨some 19, .load 3 (.tmp 18), _, _, _, _⟩) (v := .int .i64 at_) rfl (by kernel_rfl) (by kernel_rfl) (by kernel_rfl) (by kernel_rfl) (fun _ _ _ h => h) (Or.inl ⟨by rfl, ?_⟩) hS0 ?_
      · intro w' hSw
        first | (go_simp; done) | (go_simp; rfl)
      simp only [Act.put, List.setIfInBounds_toArray, List.set_cons_zero, List.set_cons_succ]
      refine wpAnyX_take (i := 8) (oi := ⟨some 20, .slice 44 (.tmp 15) (some (.tmp 19)) none none, _, _, _, _⟩) (v := .slice (some ⟨b, o + at_, none⟩) (bs.length - at_) (c - at_)) rfl (by kernel_rfl) (by kernel_rfl) (by kernel_rfl) (by kernel_rfl) (fun _ _ _ h => h) (Or.inl ⟨by rfl, ?_⟩) hS0 ?_
      · intro w' hSw
        first | (go_simp; done) | (go_simp; rfl)
      simp only [Act.put, List.setIfInBounds_toArray, List.set_cons_zero, List.set_cons_succ]
      refine wpAnyX_one (i := 9) (oi := ⟨some 21, .call { callee := .value (.func 104), args := #[.tmp 20], argTypes := #[44] }, _, _, _, _⟩) rfl (by kernel_rfl) (fun K hK => ?_)
      go_simp
      refine HF.out.mono ?_
      rintro e w5 ⟨rfl, _, h1⟩
      obtain ⟨cc, hcc, rfl⟩ := h1 hv
      refine hK _ _ ⟨.inr hS0, ?_⟩
      clear hK K
      try simp only [Act.put, List.setIfInBounds_toArray, List.set_cons_zero, List.set_cons_succ]
      refine wpAnyX_one (i := 10) (oi := ⟨some 11, .move (.tmp 21), _, _, _, _⟩) rfl (by kernel_rfl) (fun K hK => ?_)
      go_simp
      refine hK _ _ ⟨.inr hS0, ?_⟩
      clear hK K
      try simp only [Act.put, List.setIfInBounds_toArray, List.set_cons_zero, List.set_cons_succ]
      refine wpAnyX_take (i := 11) (oi := ⟨some 22, .extract (.tmp 11) 0, _, _, _, _⟩) (v := .int .i64 0) rfl (by kernel_rfl) (by kernel_rfl) (by kernel_rfl) (by kernel_rfl) (fun _ _ _ h => h) (Or.inl ⟨by rfl, ?_⟩) hS0 ?_
      · intro w' hSw
        first | (go_simp; done) | (go_simp; rfl)
      simp only [Act.put, List.setIfInBounds_toArray, List.set_cons_zero, List.set_cons_succ]
      refine wpAnyX_take (i := 12) (oi := ⟨some 23, .extract (.tmp 11) 1, _, _, _, _⟩) (v := .int .i64 0) rfl (by kernel_rfl) (by kernel_rfl) (by kernel_rfl) (by kernel_rfl) (fun _ _ _ h => h) (Or.inl ⟨by rfl, ?_⟩) hS0 ?_
      · intro w' hSw
        first | (go_simp; done) | (go_simp; rfl)
      simp only [Act.put, List.setIfInBounds_toArray, List.set_cons_zero, List.set_cons_succ]
      refine wpAnyX_take (i := 13) (oi := ⟨some 24, .extract (.tmp 11) 2, _, _, _, _⟩) (v := .int .i64 cc) rfl (by kernel_rfl) (by kernel_rfl) (by kernel_rfl) (by kernel_rfl) (fun _ _ _ h => h) (Or.inl ⟨by rfl, ?_⟩) hS0 ?_
      · intro w' hSw
        first | (go_simp; done) | (go_simp; rfl)
      simp only [Act.put, List.setIfInBounds_toArray, List.set_cons_zero, List.set_cons_succ]
      refine wpAnyX_one (i := 14) (oi := ⟨some 3, .assign (.tmp 22), _, _, _, _⟩) rfl (by kernel_rfl) (fun K hK => ?_)
      go_simp
      refine hK _ _ ⟨.inr hS0, ?_⟩
      clear hK K
      try simp only [Act.put, List.setIfInBounds_toArray, List.set_cons_zero, List.set_cons_succ]
      refine wpAnyX_one (i := 15) (oi := ⟨some 4, .assign (.tmp 23), _, _, _, _⟩) rfl (by kernel_rfl) (fun K hK => ?_)
      go_simp
      refine hK _ _ ⟨.inr hS0, ?_⟩
      clear hK K
      try simp only [Act.put, List.setIfInBounds_toArray, List.set_cons_zero, List.set_cons_succ]
      refine wpAnyX_one (i := 16) (oi := ⟨some 5, .assign (.tmp 24), _, _, _, _⟩) rfl (by kernel_rfl) (fun K hK => ?_)
      go_simp
      refine hK _ _ ⟨.inl rfl, ?_⟩
      clear hK K
      try simp only [Act.put, List.setIfInBounds_toArray, List.set_cons_zero, List.set_cons_succ]
      refine wpAnyX_done (by kernel_rfl) ?_ _
      go_wp2_with fail
      have HT := Aside.mk (HR.out.turn at_ cc hle)
      go_ret
      exact ⟨(fun x n e => by cases e), (fun _ => ⟨rfl, cc, hcc, HT.out.1⟩), HT.out.2⟩
    | some xn =>
      obtain ⟨x, n⟩ := xn
      have hn := vread_le hv
      have hn2 := vread_small hv
      rw [List.length_drop] at hn
      go_enter Tryz.func92, Tryz.ntmps92
      go_upto_region 3 with (fail)
      refine wp_region_X 16 (fun w' => w'.cell? ⟨R, 0, none⟩ = some (.slice (some ⟨b, o, none⟩) bs.length c) ∧ w'.cell? ⟨R, 1, none⟩ = some (.int .i64 at_)) (by kernel_rfl) ?_
      refine wpAnyX_take (i := 0) (oi := ⟨some 12, .move (.tmp 0), _, _, _, _⟩) (v := .pointer (some ⟨R, 0, none⟩)) rfl (by kernel_rfl) (by kernel_rfl) (by kernel_rfl) (by kernel_rfl) (fun _ _ _ h => h) (Or.inl ⟨by rfl, ?_⟩) hS0 ?_
      · intro w' hSw
        first | (go_simp; done) | (go_simp; rfl)
      simp only [Act.put, List.setIfInBounds_toArray, List.set_cons_zero, List.set_cons_succ]
      refine wpAnyX_take (i := 1) (oi := ⟨some 13, .nilCheck (.tmp 12), _, _, _, _⟩) (v := .pointer (some ⟨R, 0, none⟩)) rfl (by kernel_rfl) (by kernel_rfl) (by kernel_rfl) (by kernel_rfl) (fun _ _ _ h => h) (Or.inl ⟨by rfl, ?_⟩) hS0 ?_
      · intro w' hSw
        first | (go_simp; done) | (go_simp; rfl)
      simp only [Act.put, List.setIfInBounds_toArray, List.set_cons_zero, List.set_cons_succ]
      refine wpAnyX_take (i := 2) (oi := ⟨some 14, .fieldAddr 155 (.tmp 13) 0, _, _, _, _⟩) (v := .pointer (some ⟨R, 0, none⟩)) rfl (by kernel_rfl) (by kernel_rfl) (by kernel_rfl) (by kernel_rfl) (fun _ _ _ h => h) (Or.inl ⟨by rfl, ?_⟩) hS0 ?_
      · intro w' hSw
        first | (go_simp; done) | (go_simp; rfl)
      simp only [Act.put, List.setIfInBounds_toArray, List.set_cons_zero, List.set_cons_succ]
      refine wpAnyX_take (i := 3) (oi := ⟨some 15, .load 44 (.tmp 14), _, _, _, _⟩) (v := .slice (some ⟨b, o, none⟩) bs.length c) rfl (by kernel_rfl) (by kernel_rfl) (by kernel_rfl) (by kernel_rfl) (fun _ _ _ h => h) (Or.inl ⟨by rfl, ?_⟩) hS0 ?_
      · intro w' hSw
        first | (go_simp; done) | (go_simp; rfl)
      simp only [Act.put, List.setIfInBounds_toArray, List.set_cons_zero, List.set_cons_succ]
      refine wpAnyX_take (i := 4) (oi := ⟨some 16, .move (.tmp 0), _, _, _, _⟩) (v := .pointer (some ⟨R, 0, none⟩)) rfl (by kernel_rfl) (by kernel_rfl) (by kernel_rfl) (by kernel_rfl) (fun _ _ _ h => h) (Or.inl ⟨by rfl, ?_⟩) hS0 ?_
      · intro w' hSw
        first | (go_simp; done) | (go_simp; rfl)
      simp only [Act.put, List.setIfInBounds_toArray, List.set_cons_zero, List.set_cons_succ]
      refine wpAnyX_take (i := 5) (oi := ⟨some 17, .nilCheck (.tmp 16), _, _, _, _⟩) (v := .pointer (some ⟨R, 0, none⟩)) rfl (by kernel_rfl) (by kernel_rfl) (by kernel_rfl) (by kernel_rfl) (fun _ _ _ h => h) (Or.inl ⟨by rfl, ?_⟩) hS0 ?_
      · intro w' hSw
        first | (go_simp; done) | (go_simp; rfl)
      simp only [Act.put, List.setIfInBounds_toArray, List.set_cons_zero, List.set_cons_succ]
      refine wpAnyX_take (i := 6) (oi := ⟨some 18, .fieldAddr 155 (.tmp 17) 1, _, _, _, _⟩) (v := .pointer (some ⟨R, 1, none⟩)) rfl (by kernel_rfl) (by kernel_rfl) (by kernel_rfl) (by kernel_rfl) (fun _ _ _ h => h) (Or.inl ⟨by rfl, ?_⟩) hS0 ?_
      · intro w' hSw
        first | (go_simp; done) | (go_simp; rfl)
      simp only [Act.put, List.setIfInBounds_toArray, List.set_cons_zero, List.set_cons_succ]
      refine wpAnyX_take (i := 7) (oi := ⟨some 19, .load 3 (.tmp 18), _, _, _, _⟩) (v := .int .i64 at_) rfl (by kernel_rfl) (by kernel_rfl) (by kernel_rfl) (by kernel_rfl) (fun _ _ _ h => h) (Or.inl ⟨by rfl, ?_⟩) hS0 ?_
      · intro w' hSw
        first | (go_simp; done) | (go_simp; rfl)
      simp only [Act.put, List.setIfInBounds_toArray, List.set_cons_zero, List.set_cons_succ]
      refine wpAnyX_take (i := 8) (oi := ⟨some 20, .slice 44 (.tmp 15) (some (.tmp 19)) none none, _, _, _, _⟩) (v := .slice (some ⟨b, o + at_, none⟩) (bs.length - at_) (c - at_)) rfl (by kernel_rfl) (by kernel_rfl) (by kernel_rfl) (by kernel_rfl) (fun _ _ _ h => h) (Or.inl ⟨by rfl, ?_⟩) hS0 ?_
      · intro w' hSw
        first | (go_simp; done) | (go_simp; rfl)
      simp only [Act.put, List.setIfInBounds_toArray, List.set_cons_zero, List.set_cons_succ]
      refine wpAnyX_one (i := 9) (oi := ⟨some 21, .call { callee := .value (.func 104), args := #[.tmp 20], argTypes := #[44] }, _, _, _, _⟩) rfl (by kernel_rfl) (fun K hK => ?_)
      go_simp
      refine HF.out.mono ?_
      rintro e w5 ⟨rfl, h1, _⟩
      obtain rfl := h1 _ _ hv
      refine hK _ _ ⟨.inr hS0, ?_⟩
      clear hK K
      try simp only [Act.put, List.setIfInBounds_toArray, List.set_cons_zero, List.set_cons_succ]
      refine wpAnyX_one (i := 10) (oi := ⟨some 11, .move (.tmp 21), _, _, _, _⟩) rfl (by kernel_rfl) (fun K hK => ?_)
      go_simp
      refine hK _ _ ⟨.inr hS0, ?_⟩
      clear hK K
      try simp only [Act.put, List.setIfInBounds_toArray, List.set_cons_zero, List.set_cons_succ]
      refine wpAnyX_take (i := 11) (oi := ⟨some 22, .extract (.tmp 11) 0, _, _, _, _⟩) (v := .int .i64 (x : Nat)) rfl (by kernel_rfl) (by kernel_rfl) (by kernel_rfl) (by kernel_rfl) (fun _ _ _ h => h) (Or.inl ⟨by rfl, ?_⟩) hS0 ?_
      · intro w' hSw
        first | (go_simp; done) | (go_simp; rfl)
      simp only [Act.put, List.setIfInBounds_toArray, List.set_cons_zero, List.set_cons_succ]
      refine wpAnyX_take (i := 12) (oi := ⟨some 23, .extract (.tmp 11) 1, _, _, _, _⟩) (v := .int .i64 (n : Nat)) rfl (by kernel_rfl) (by kernel_rfl) (by kernel_rfl) (by kernel_rfl) (fun _ _ _ h => h) (Or.inl ⟨by rfl, ?_⟩) hS0 ?_
      · intro w' hSw
        first | (go_simp; done) | (go_simp; rfl)
      simp only [Act.put, List.setIfInBounds_toArray, List.set_cons_zero, List.set_cons_succ]
      refine wpAnyX_take (i := 13) (oi := ⟨some 24, .extract (.tmp 11) 2, _, _, _, _⟩) (v := .int .i64 0) rfl (by kernel_rfl) (by kernel_rfl) (by kernel_rfl) (by kernel_rfl) (fun _ _ _ h => h) (Or.inl ⟨by rfl, ?_⟩) hS0 ?_
      · intro w' hSw
        first | (go_simp; done) | (go_simp; rfl)
      simp only [Act.put, List.setIfInBounds_toArray, List.set_cons_zero, List.set_cons_succ]
      refine wpAnyX_one (i := 14) (oi := ⟨some 3, .assign (.tmp 22), _, _, _, _⟩) rfl (by kernel_rfl) (fun K hK => ?_)
      go_simp
      refine hK _ _ ⟨.inr hS0, ?_⟩
      clear hK K
      try simp only [Act.put, List.setIfInBounds_toArray, List.set_cons_zero, List.set_cons_succ]
      refine wpAnyX_one (i := 15) (oi := ⟨some 4, .assign (.tmp 23), _, _, _, _⟩) rfl (by kernel_rfl) (fun K hK => ?_)
      go_simp
      refine hK _ _ ⟨.inr hS0, ?_⟩
      clear hK K
      try simp only [Act.put, List.setIfInBounds_toArray, List.set_cons_zero, List.set_cons_succ]
      refine wpAnyX_one (i := 16) (oi := ⟨some 5, .assign (.tmp 24), _, _, _, _⟩) rfl (by kernel_rfl) (fun K hK => ?_)
      go_simp
      refine hK _ _ ⟨.inl rfl, ?_⟩
      clear hK K
      try simp only [Act.put, List.setIfInBounds_toArray, List.set_cons_zero, List.set_cons_succ]
      refine wpAnyX_done (by kernel_rfl) ?_ _
      go_wp2_with fail
      have ht := HR.out.turn (at_ + n) 0 (by omega)
      rw [Int.natCast_add] at ht
      have HT := Aside.mk ht
      clear ht
      go_ret
      exact ⟨(fun x' n' e => by cases e; exact ⟨rfl, HT.out.1⟩), (fun e => by cases e), HT.out.2⟩
end Go.Proofs.YtgbladpoglhleaaGreatDoor
