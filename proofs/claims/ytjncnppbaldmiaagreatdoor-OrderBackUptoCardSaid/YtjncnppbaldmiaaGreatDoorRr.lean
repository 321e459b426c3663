/- The document's reader of numbers walked: New, Left, number, Int. No condition. -/
import Derived.Test.YtjncnppbaldmiaaGreatDoorVy
import Derived.Test.YtjncnppbaldmiaaGreatDoorFm
namespace Go.Proofs.YtjncnppbaldmiaaGreatDoor
open Go.RowKit
/-- The document's reader in the box R. -/
structure Rr (lo : Nat) (W : World) (R : Nat) (bv : Value) (bs : List UInt8) (at_ : Nat) (err : Int) : Prop where
  box : W.heap[R]? = some (.cells #[bv, .int .i64 at_, .int .i64 err] 190 (0, 0))
  own : W.ownsRow lo 5 1 bv bs.length (u8s bs)
  ne : bv.ownBlock ≠ some R
  lo : lo ≤ R
  le : at_ ≤ bs.length
theorem Rr.below {lo : Nat} {w w' : World} {R : Nat} {bv : Value} {bs : List UInt8} {at_ : Nat} {err : Int} (h : Rr lo w R bv bs at_ err) (hb : Below w.heap.size w w') : Rr lo w' R bv bs at_ err :=
  ⟨bblk hb h.box, ownsRow_move h.own fun q e => hb.block q (h.own.lt q e).2, h.ne, h.lo, h.le⟩
theorem Rr.turn {lo : Nat} {w : World} {R : Nat} {bv : Value} {bs : List UInt8} {at_ : Nat} {err : Int} (h : Rr lo w R bv bs at_ err) (p : Nat) (c : Int) (hp : p ≤ bs.length) :
    Rr lo ((w.setCell ⟨R, 2, none⟩ (.int .i64 c)).setCell ⟨R, 1, none⟩ (.int .i64 p)) R bv bs p c ∧ ((w.setCell ⟨R, 2, none⟩ (.int .i64 c)).setCell ⟨R, 1, none⟩ (.int .i64 p)).heap.size = w.heap.size ∧
      (∀ q, q ≠ R → ((w.setCell ⟨R, 2, none⟩ (.int .i64 c)).setCell ⟨R, 1, none⟩ (.int .i64 p)).heap[q]? = w.heap[q]?) ∧ ((w.setCell ⟨R, 2, none⟩ (.int .i64 c)).setCell ⟨R, 1, none⟩ (.int .i64 p)).os = w.os ∧
      ((w.setCell ⟨R, 2, none⟩ (.int .i64 c)).setCell ⟨R, 1, none⟩ (.int .i64 p)).tape = w.tape ∧ ((w.setCell ⟨R, 2, none⟩ (.int .i64 c)).setCell ⟨R, 1, none⟩ (.int .i64 p)).output = w.output := by
  have hfar : ∀ q, q ≠ R → ((w.setCell ⟨R, 2, none⟩ (.int .i64 c)).setCell ⟨R, 1, none⟩ (.int .i64 p)).heap[q]? = w.heap[q]? := fun q hq => by
    rw [Below.heap_setCell _ _ _ _ hq, Below.heap_setCell _ _ _ _ hq]
  refine ⟨⟨?_, ownsRow_move h.own fun q e => hfar q (fun e2 => h.ne (e2 ▸ e)), h.ne, h.lo, hp⟩, ?_, hfar, rfl, rfl, rfl⟩
  · exact Lib.heap_setCell_same (Lib.heap_setCell_same h.box _) _
  · simp
set_option maxHeartbeats 2000000 in
set_option maxRecDepth 100000 in
theorem refNew_reader {w : World} {ok : Nat → Prop} {v : Value} {bs : List UInt8} (hs : Sl kbyte w ok v bs) (hl : bs.length ≤ 1099511627776) :
    Calls Tryz.prog 74 #[v] w fun e w' => ∃ R bv, e = .returned (.pointer (some ⟨R, 0, none⟩)) ∧ Rr w.heap.size w' R bv bs 0 0 ∧ Below w.heap.size w w' := by
  obtain ⟨A, c, rfl, hc, hm⟩ := hs.slice
  have hcall := Bytes_any hs hl
  clear hs
  go_enter Tryz.func74, Tryz.ntmps74
  go_wp2_with fail
  refine hcall.mono ?_
  clear hcall
  rintro e w2 ⟨bv, rfl, ho, hb⟩
  have HP : Aside (∃ R v, Ending.returned (.pointer (some ⟨w2.heap.size, 0, none⟩)) = .returned (.pointer (some ⟨R, 0, none⟩)) ∧ Rr w.heap.size (w2.alloc (.cells #[bv, .int .i64 0, .int .i64 0] 190)) R v bs 0 0 ∧ Below w.heap.size w (w2.alloc (.cells #[bv, .int .i64 0, .int .i64 0] 190))) :=
    ⟨w2.heap.size, bv, rfl, ⟨heap_alloc_new _ _, ho.alloc _, fun e => by have := (ho.lt _ e).2; omega, hb.size, Nat.zero_le _⟩, hb.alloc hb.size _⟩
  obtain ⟨A2, m2, c2, rfl⟩ := own_slice ho
  clear ho hb
  go_wp2_with fail
  go_ret
  exact HP.out
set_option maxHeartbeats 2000000 in
set_option maxRecDepth 100000 in
theorem refLeft_any {w : World} {lo R at_ : Nat} {bv : Value} {bs : List UInt8} {err : Int} (h : Rr lo w R bv bs at_ err) :
    Calls Tryz.prog 75 #[.pointer (some ⟨R, 0, none⟩)] w fun e w' => e = .returned (.int .i64 (if err = 0 then (bs.length : Int) - (at_ : Int) else 0)) ∧ ∃ q, w' = w.drewN q := by
  obtain ⟨k0, k1, k2⟩ := three h.box
  have hle := h.le
  have hcs := (own_u8s h.own).sl
  obtain ⟨A, c, rfl, _⟩ := hcs.slice
  clear h hcs
  by_cases he : err = 0
  · subst he
    go_enter Tryz.func75, Tryz.ntmps75
    go_wp2_with fail
    go_region
    all_goals go_wp2
    all_goals go_ret
    all_goals exact ⟨by simp, 1, rfl⟩
  · have hb : (err == 0) = false := beq_false_of_ne he
    have hb2 : (err != 0) = true := by simp [he]
    rw [if_neg he]
    go_enter Tryz.func75, Tryz.ntmps75
    go_wp2_with fail
    go_ret
    exact ⟨rfl, 0, rfl⟩
theorem vgo_big : ∀ (f x i : Nat) (l : List UInt8), (∀ c ∈ l.take f, 128 ≤ c.toNat) → vgo f x i l = none
  | 0, _, _, _, _ => rfl
  | _ + 1, _, _, [], _ => rfl
  | f + 1, x, i, c :: r, h => by
    have hc := h c (by simp)
    rw [vgo, if_neg (by omega)]
    exact vgo_big f _ _ r fun d hd => h d (by simp [hd])
def NoPost (w : World) (bs : List UInt8) (p : Nat) (e : Ending) (w' : World) : Prop := w' = w ∧
    ((∀ x n, vread (bs.drop p) = some (x, n) → e = .returned (.tuple #[.int .i64 (x : Nat), .int .i64 (p + n : Nat), .int .i64 0])) ∧ (vread (bs.drop p) = none → ∃ c : Int, c ≠ 0 ∧ e = .returned (.tuple #[.int .i64 0, .int .i64 p, .int .i64 c])))
theorem no_no {w : World} {bs : List UInt8} {p : Nat} {c : Int} (h : vread (bs.drop p) = none) (hc : c ≠ 0) : NoPost w bs p (.returned (.tuple #[.int .i64 0, .int .i64 p, .int .i64 c])) w :=
  ⟨rfl, (fun x n e => by rw [h] at e; cases e), fun _ => ⟨c, hc, rfl⟩⟩
theorem no_yes {w : World} {bs : List UInt8} {p x n : Nat} {a : Int} (h : vread (bs.drop p) = some (x, n)) (ha : a = (p + n : Nat)) : NoPost w bs p (.returned (.tuple #[.int .i64 (x : Nat), .int .i64 a, .int .i64 0])) w := by
  subst ha
  exact ⟨rfl, (fun x' n' e => by rw [h] at e; cases e; rfl), fun e => by rw [h] at e; cases e⟩
set_option maxHeartbeats 4000000 in
set_option maxRecDepth 100000 in
theorem refNumber_any {w : World} {lo R p : Nat} {bv : Value} {bs : List UInt8} {err : Int} (h : Rr lo w R bv bs p err) :
    Calls Tryz.prog 124 #[.pointer (some ⟨R, 0, none⟩), .int .i64 p] w (NoPost w bs p) := by
  obtain ⟨k0, -, -⟩ := three h.box
  have hle := h.le
  have hcs := (own_u8s h.own).sl
  obtain ⟨A, c, rfl, hlc, hlm⟩ := hcs.slice
  have HS := Aside.mk hcs
  clear h hcs
  have HNo : ∀ c : Int, c ≠ 0 → Aside (vread (bs.drop p) = none → NoPost w bs p (.returned (.tuple #[.int .i64 0, .int .i64 p, .int .i64 c])) w) := fun c hc => ⟨fun h => no_no h hc⟩
  by_cases hp : p < bs.length
  · obtain ⟨b, o, e, kb⟩ := HS.out.byte p hp
    cases e
    have hd : bs.drop p = bs[p] :: bs.drop (p + 1) := List.drop_eq_getElem_cons hp
    have hpi : (p : Int) < (bs.length : Int) := by omega
    by_cases h1 : bs[p] = 128
    · have hno : vread (bs.drop p) = none := by
        unfold vread
        rw [if_pos (by rw [hd, h1]; rfl)]
      have e1 : (((bs[p]).toNat : Int) == 128) = true := by rw [h1]; decide
      have HP := Aside.mk ((HNo 11 (by decide)).out hno)
      clear hno hd h1
      generalize bs[p] = c0 at *
      go_enter Tryz.func124, Tryz.ntmps124
      go_wp2_with fail
      exact bodyPost_ret (by simp [results, Tryz.results124, go_sem]) rfl HP.out
    · have e1 : (((bs[p]).toNat : Int) == 128) = false := by
        refine beq_false_of_ne fun e => h1 ?_
        have : (bs[p]).toNat = (128 : UInt8).toNat := by rw [show (128 : UInt8).toNat = 128 from rfl]; omega
        exact UInt8.toNat_inj.1 this
      have HV : Aside (vread (bs.drop p) = vgo 9 0 0 (bs.drop p)) := ⟨by
        unfold vread
        rw [if_neg]
        rw [hd]
        intro e
        exact h1 (Option.some.inj e)⟩
      clear h1 hd
      generalize bs[p] = c0 at *
      go_enter Tryz.func124, Tryz.ntmps124
      go_wp2_with fail
      go_loopg [7] 9 (fun kq v7 wr => ∃ n : Nat, Aside (n + kq = 9 ∧ p + n ≤ bs.length) ∧ v7 = .int .i64 n ∧ Aside (∀ j (_ : j < n) (h2 : p + j < bs.length), 128 ≤ (bs[p + j]).toNat) ∧ wr = w)
      case atStart => exact ⟨0, ⟨by omega⟩, rfl, ⟨fun j hj => absurd hj (Nat.not_lt_zero _)⟩, rfl⟩
      case round =>
        clear kb e1
        obtain ⟨n, HN, rfl, HB, rfl⟩ := hrel
        have hn9 : n ≤ 9 := by have := HN.out; omega
        have hnl : p + n ≤ bs.length := HN.out.2
        have hbig : ∀ d ∈ (bs.drop p).take n, 128 ≤ d.toNat := fun d hd => by
          obtain ⟨j, hj, rfl⟩ := List.mem_iff_getElem.1 hd
          rw [List.length_take, List.length_drop] at hj
          rw [List.getElem_take, List.getElem_drop]
          exact HB.out j (by omega) (by omega)
        have HBig := Aside.mk hbig
        clear hbig
        by_cases h9 : n = 9
        · subst h9
          have HP := Aside.mk ((HNo 12 (by decide)).out (by rw [HV.out]; exact vgo_big _ _ _ _ HBig.out))
          clear HNo HV HB HBig HN
          go_wp2_with fail
          exact bodyPost_ret (by simp [results, Tryz.results124, go_sem]) rfl HP.out
        · have h9' : (n : Int) < 9 := by omega
          have h9e : ((n : Int) == 9) = false := beq_false_of_ne (by omega)
          by_cases hl : p + n < bs.length
          · obtain ⟨b', o', e, kn⟩ := HS.out.byte (p + n) hl
            cases e
            have hpn : (p : Int) + (n : Int) < (bs.length : Int) := by omega
            have hpn0 : (0 : Int) ≤ (p : Int) + (n : Int) := by omega
            have hple : ((p : Int) + (n : Int) == (bs.length : Int)) = false := beq_false_of_ne (by omega)
            have htn : ((p : Int) + (n : Int)).toNat = p + n := by omega
            by_cases hb : 128 ≤ (bs[p + n]).toNat
            · have hb1 : decide ((128 : Int) ≤ ((bs[p + n]).toNat : Int)) = true := decide_eq_true (by omega)
              have HM : Aside (9 - (n + 1) < gk ∧ (n + 1) + (9 - (n + 1)) = 9 ∧ p + (n + 1) ≤ bs.length) := ⟨by have := HN.out; omega⟩
              have HB' : Aside (∀ j (_ : j < n + 1) (h2 : p + j < bs.length), 128 ≤ (bs[p + j]).toNat) := ⟨fun j hj h2 => by
                rcases Nat.lt_succ_iff_lt_or_eq.1 hj with h | h
                · exact HB.out j h h2
                · subst h; exact hb⟩
              clear hb HB HBig HN HV
              generalize bs[p + n] = cn at *
              go_wp2_with fail
              go_roundg (9 - (n + 1))
              case measure => exact HM.out.1
              case rel => exact ⟨n + 1, ⟨HM.out.2⟩, by go_num, HB', rfl⟩
            · have hb1 : decide ((128 : Int) ≤ ((bs[p + n]).toNat : Int)) = false := decide_eq_false (by omega)
              have HLo := Aside.mk (Nat.lt_of_not_le hb)
              clear hb HN
              generalize hcn : bs[p + n] = cn at *
              have HCn := Aside.mk hcn
              clear hcn
              go_wp2_with fail
              go_loopg [8, 9] (n + 1) (fun kq v8 v9 wr' => ∃ (i x : Nat), Aside (i + kq = n + 1) ∧ v9 = .int .i64 i ∧ v8 = .int .i64 x ∧ Aside ((i ≤ n → x < 128 ^ i ∧ vread (bs.drop p) = vgo (9 - i) x i (bs.drop (p + i))) ∧ (i = n + 1 → vread (bs.drop p) = some (x, n + 1))) ∧ wr' = wr)
              case atStart => exact ⟨0, 0, ⟨by omega⟩, rfl, rfl, ⟨fun _ => ⟨by simp, HV.out⟩, fun h => by omega⟩, rfl⟩
              case round =>
                obtain ⟨i, x, HI, rfl, rfl, HX, rfl⟩ := hrel
                by_cases hi : i ≤ n
                · have hil : p + i < bs.length := by omega
                  obtain ⟨b', o', e, ki⟩ := HS.out.byte (p + i) hil
                  cases e
                  have hpi2 : (p : Int) + (i : Int) < (bs.length : Int) := by omega
                  have hpi0 : (0 : Int) ≤ (p : Int) + (i : Int) := by omega
                  have hti : ((p : Int) + (i : Int)).toNat = p + i := by omega
                  have hii : (i : Int) ≤ (n : Int) := by omega
                  have hx0 := HX.out.1 hi
                  have hxb : x < 72057594037927936 := by
                    have h2 : 128 ^ i ≤ 128 ^ 8 := Nat.pow_le_pow_right (by omega) (by omega)
                    have h3 : (128 : Nat) ^ 8 = 72057594037927936 := by decide
                    omega
                  have hdi : bs.drop (p + i) = bs[p + i] :: bs.drop (p + (i + 1)) := List.drop_eq_getElem_cons hil
                  have hg : 9 - i = (9 - (i + 1)) + 1 := by omega
                  have hstep : vread (bs.drop p) = if (bs[p + i]).toNat < 128 then some (x * 128 + (bs[p + i]).toNat, i + 1) else vgo (9 - (i + 1)) (x * 128 + (bs[p + i]).toNat % 128) (i + 1) (bs.drop (p + (i + 1))) := by
                    rw [hx0.2, hdi, hg, vgo]
                  have hc8 : (bs[p + i]).toNat < 256 := (bs[p + i]).toNat_lt
                  have HX' : Aside ((i + 1 ≤ n → x * 128 + (bs[p + i]).toNat % 128 < 128 ^ (i + 1) ∧ vread (bs.drop p) = vgo (9 - (i + 1)) (x * 128 + (bs[p + i]).toNat % 128) (i + 1) (bs.drop (p + (i + 1)))) ∧ (i + 1 = n + 1 → vread (bs.drop p) = some (x * 128 + (bs[p + i]).toNat % 128, n + 1))) := ⟨by
                    refine ⟨fun h => ⟨?_, ?_⟩, fun h => ?_⟩
                    · have h2 := Nat.mod_lt (bs[p + i]).toNat (show 0 < 128 by decide)
                      have h1 := hx0.1
                      rw [Nat.pow_succ]
                      omega
                    · have := HB.out i (by omega) hil
                      rw [hstep, if_neg (by omega)]
                    · have hin : i = n := by omega
                      subst hin
                      have h1 := HLo.out
                      rw [← HCn.out] at h1
                      rw [hstep, if_pos (by omega), Nat.mod_eq_of_lt (by omega)]⟩
                  have HM : Aside (n + 1 - (i + 1) < gk ∧ i + 1 + (n + 1 - (i + 1)) = n + 1) := ⟨by have := HI.out; omega⟩
                  clear hstep hg hdi hx0 HX HCn HV HNo
                  generalize bs[p + i] = ci at *
                  obtain ⟨cm, hcm⟩ : ∃ cm, cm = ci.toNat := ⟨_, rfl⟩
                  rw [← hcm] at HX' ki hc8
                  clear hcm
                  go_wp2_with fail
                  go_roundg (n + 1 - (i + 1))
                  case measure => exact HM.out.1
                  case rel => exact ⟨i + 1, x * 128 + cm % 128, ⟨HM.out.2⟩, by go_num, by go_num, HX', rfl⟩
                · have hie : i = n + 1 := by have := HI.out; omega
                  subst hie
                  have HP := Aside.mk (no_yes (w := wr) (a := (p : Int) + (n : Int) + 1) (HX.out.2 rfl) (by omega))
                  clear HX HV HNo HB HBig HI
                  go_wp2_with fail
                  exact bodyPost_ret (by simp [results, Tryz.results124, go_sem]) rfl HP.out
          · have hle2 : p + n = bs.length := by omega
            have hpn : ¬ ((p : Int) + (n : Int) < (bs.length : Int)) := by omega
            have hpe : ((p : Int) + (n : Int) == (bs.length : Int)) = true := by simp; omega
            have HP := Aside.mk ((HNo 10 (by decide)).out (by
              rw [HV.out]
              refine vgo_big _ _ _ _ fun d hd => HBig.out d ?_
              rw [List.take_of_length_le (by rw [List.length_drop]; omega)] at hd ⊢
              exact hd))
            clear HNo HV HB HBig HN hle2 hl
            go_wp2_with fail
            exact bodyPost_ret (by simp [results, Tryz.results124, go_sem]) rfl HP.out
  · have hpe : p = bs.length := by omega
    have hno : vread (bs.drop p) = none := by
      rw [List.drop_eq_nil_of_le (by omega)]; rfl
    have HP := Aside.mk ((HNo 10 (by decide)).out hno)
    have h1 : ¬ ((p : Int) < (bs.length : Int)) := by omega
    have h2 : ((p : Int) == (bs.length : Int)) = true := by simp; omega
    clear hno hp hle HNo HS
    have HPe := Aside.mk hpe
    have hpb : p ≤ 9223372036854775807 := by omega
    clear hpe
    go_enter Tryz.func124, Tryz.ntmps124
    go_wp2_with fail
    go_loopg [7] 0 (fun kq v7 wr => ∃ n : Nat, v7 = .int .i64 n ∧ Aside (n = 0) ∧ wr = w)
    case atStart => exact ⟨0, rfl, ⟨rfl⟩, rfl⟩
    case round =>
      obtain ⟨n, rfl, HN, rfl⟩ := hrel
      have h3 : ¬ ((p : Int) + (n : Int) < (bs.length : Int)) := by have := HN.out; have := HPe.out; omega
      have h4 : ((p : Int) + (n : Int) == (bs.length : Int)) = true := by have := HN.out; have := HPe.out; simp; omega
      have h5 : ((n : Int) == 9) = false := by have := HN.out; simp; omega
      have h6 : (n : Int) < 9 := by have := HN.out; omega
      have h7 : (p : Int) + (n : Int) ≤ 9223372036854775807 := by have := HN.out; omega
      go_wp2_with fail
      exact bodyPost_ret (by simp [results, Tryz.results124, go_sem]) rfl HP.out
end Go.Proofs.YtjncnppbaldmiaaGreatDoor
