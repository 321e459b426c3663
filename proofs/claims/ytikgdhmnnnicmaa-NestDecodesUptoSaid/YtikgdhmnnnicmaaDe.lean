/- nest.Decode walked. Its condition: the nodes that the payloads say are at most 16777216. -/
import Derived.Test.YtikgdhmnnnicmaaDp
import Derived.Test.YtikgdhmnnnicmaaEq
namespace Go.Proofs.Ytikgdhmnnnicmaa
open Go.RowKit Go.Shelf
/-- What is behind the first i bytes. -/
theorem Sl.rest {w : World} {ok : Nat → Prop} {b o n c i : Nat} {xs : List UInt8} (h : Sl kbyte w ok (.slice (some ⟨b, o, none⟩) n c) xs) (hi : i ≤ xs.length) : Sl kbyte w ok (.slice (some ⟨b, o + i, none⟩) (n - i) (c - i)) (xs.drop i) := by
  obtain ⟨A, c', e, h1, h2, h3⟩ := h
  cases e
  refine ⟨_, c - i, by rw [List.length_drop], by rw [List.length_drop]; omega, by omega, fun h0 => ?_⟩
  rw [List.length_drop] at h0
  obtain ⟨b', o', e, hb, hl, hx⟩ := h3 (by omega)
  cases e
  refine ⟨b, o + i, rfl, hb, hl, fun j x hj => ?_⟩
  rw [List.getElem?_drop] at hj
  obtain ⟨cs, hr, hc⟩ := hx (i + j) x hj
  refine ⟨cs, hr, fun k u hk => ?_⟩
  have := hc k u hk
  simp only [kbyte, flat, Nat.mul_one] at this ⊢
  rw [show o + i + j + k = o + (i + j) + k by omega]
  exact this
theorem Sl.rest0 {w : World} {ok : Nat → Prop} {A : Option Addr} {n c i m : Nat} {xs : List UInt8} (h : Sl kbyte w ok (.slice A n c) xs) (hc : c ≤ i) (hm : m = n - i) : Sl kbyte w ok (.slice A m 0) (xs.drop i) := by
  obtain ⟨A', c', e, h1, h2, h3⟩ := h
  cases e
  subst hm
  have he : xs.drop i = [] := List.drop_eq_nil_of_le (by omega)
  have h0 : xs.length - i = 0 := by omega
  rw [he, h0]
  exact ⟨A, 0, rfl, Nat.le_refl _, by omega, fun h => absurd h (Nat.lt_irrefl 0)⟩
theorem numAt_drop (bs : List UInt8) (i j : Nat) : numAt (bs.drop i) j = numAt bs (i + j) := by
  simp only [numAt, List.getD_eq_getElem?_getD, List.getElem?_drop, Nat.add_assoc]
theorem numAt_in (bs : List UInt8) (i : Nat) : 0 ≤ numAt bs i ∧ numAt bs i ≤ 4294967295 := by
  unfold numAt
  have b0 := (bs.getD i 0).toNat_lt
  have b1 := (bs.getD (i + 1) 0).toNat_lt
  have b2 := (bs.getD (i + 2) 0).toNat_lt
  have b3 := (bs.getD (i + 3) 0).toNat_lt
  omega
/-- What has been read: i payloads, and j nodes of the next one. -/
def decP (data : List (List UInt8)) (i j : Nat) : List Node := decF (data.take i) ++ (decB (data.getD i [])).take j
theorem decB_length (b : List UInt8) : (decB b).length = b.length / 16 := by simp [decB]
theorem decP_zero (data : List (List UInt8)) : decP data 0 0 = [] := by simp [decP, decF]
theorem decP_all (data : List (List UInt8)) : decP data data.length 0 = decF data := by simp [decP]
theorem decP_row {data : List (List UInt8)} {i : Nat} (hi : i < data.length) : decP data i (data[i].length / 16) = decP data (i + 1) 0 := by
  unfold decP
  rw [List.getD_eq_getElem?_getD, List.getElem?_eq_getElem hi, Option.getD_some, List.take_of_length_le (l := decB data[i]) (by rw [decB_length]; exact Nat.le_refl _), take_snoc hi]
  simp only [decF, List.flatMap_append, List.flatMap_cons, List.flatMap_nil, List.append_nil, List.take_zero]
theorem decP_next {data : List (List UInt8)} {i j : Nat} (hi : i < data.length) (hj : j < data[i].length / 16) : decP data i (j + 1) = decP data i j ++ [nodeAt data[i] (16 * j)] := by
  unfold decP
  rw [List.getD_eq_getElem?_getD, List.getElem?_eq_getElem hi, Option.getD_some, take_snoc (by rw [decB_length]; exact hj), List.append_assoc]
  simp [decB]
theorem decP_len (data : List (List UInt8)) (i j : Nat) : (decP data i j).length ≤ (decF data).length := by
  have h : decF data = decF (data.take i) ++ decF (data.drop i) := by
    unfold decF
    rw [← List.flatMap_append, List.take_append_drop]
  rw [h]
  unfold decP
  rw [List.length_append, List.length_append]
  refine Nat.add_le_add_left ?_ _
  rcases Nat.lt_or_ge i data.length with hi | hi
  · rw [List.drop_eq_getElem_cons hi, List.getD_eq_getElem?_getD, List.getElem?_eq_getElem hi]
    simp only [decF, List.flatMap_cons, List.length_append, List.length_take, Option.getD_some]
    omega
  · rw [List.getD_eq_getElem?_getD, List.getElem?_eq_none hi]
    simp [decB]
def DecPost (w : World) (gen n : Int) (head : List UInt8) (data : List (List UInt8)) (e : Ending) (w' : World) : Prop :=
  (decOk gen n head data = true → ∃ v, e = .returned (.tuple #[v, .int .i64 0]) ∧ w'.ownsRow w.heap.size 42 4 v (decF data).length (nodeCells (decF data))) ∧
  (decOk gen n head data = false → e = .returned (.tuple #[.slice none 0 0, .int .i64 90])) ∧ Below w.heap.size w w'
theorem dec_no {w w' : World} {gen n : Int} {head : List UInt8} {data : List (List UInt8)} (h : decOk gen n head data = false) (hb : Below w.heap.size w w') : DecPost w gen n head data (.returned (.tuple #[.slice none 0 0, .int .i64 90])) w' :=
  ⟨fun e => absurd (e.symm.trans h) (by decide), fun _ => rfl, hb⟩
/-- number's answer, its place as a literal. -/
theorem number_at {w : World} {ok : Nat → Prop} {v : Value} {bs : List UInt8} (i : Nat) (z : Int) (hz : z = i) (hs : Sl kbyte w ok v bs) (hi : i < 4) (hl : 16 ≤ bs.length) :
    Calls Try.prog 54 #[v, .int .i64 z] w (NumPost w bs (4 * i)) := by
  subst hz
  exact number_any i hs hi hl
set_option maxHeartbeats 8000000 in
set_option maxRecDepth 100000 in
theorem pdecode_any {w : World} {ok ok2 : Nat → Prop} {hv v : Value} {head : List UInt8} {data : List (List UInt8)} (gen n : Int) (hh : Sl kbyte w ok hv head) (hs : Sl (kslice kbyte) w ok2 v data) (hl : (decF data).length ≤ 16777216) :
    Calls Try.prog 31 #[.int .i64 gen, .int .i64 n, hv, v] w (DecPost w gen n head data) := by
  obtain ⟨A, c, rfl, hc, hm⟩ := hs.slice
  obtain ⟨Ah, ch, rfl, hch, hmh⟩ := hh.slice
  have HS := Aside.mk hs.bound
  have HH := Aside.mk hh
  have HLen : Aside (∀ i j, (decP data i j).length ≤ 16777216) := ⟨fun i j => Nat.le_trans (decP_len data i j) hl⟩
  have HL := Aside.mk hl
  clear hs hh hl
  have HR0 : Aside (w.ownsRow w.heap.size 42 4 (.slice none 0 0) (decP data 0 0).length (nodeCells (decP data 0 0))) := ⟨by rw [decP_zero]; exact World.ownsRow_nil _ _ _ _⟩
  have HB0 := Aside.mk (Below.refl w.heap.size w)
  go_enter Try.func31, Try.ntmps31
  go_wp2
  go_loopg [10, 12, 18] data.length (fun kq v10 v12 v18 wr => ∃ (i : Nat), Aside (i + kq = data.length) ∧ v18 = .int .i64 i ∧ Aside (Below w.heap.size w wr) ∧ Aside (wr.ownsRow w.heap.size 42 4 v10 (decP data i 0).length (nodeCells (decP data i 0))))
  case atStart => exact ⟨0, ⟨by omega⟩, rfl, HB0, HR0⟩
  case round =>
    clear HR0 HB0
    obtain ⟨i, HI, rfl, HB, HR⟩ := hrel
    by_cases hi : i < data.length
    · obtain ⟨b, o, bv, e, k0, s1⟩ := (HS.out.below HB.out).row i hi
      cases e
      have HM : Aside (data.length - (i + 1) < gk) := ⟨by have := HI.out; omega⟩
      have HRow := Aside.mk (decP_row hi)
      have HNx := Aside.mk (fun j => decP_next (j := j) hi)
      generalize data[i] = bs at *
      obtain ⟨A2, c2, rfl, hc2, hm2⟩ := s1.slice
      have HS1 := Aside.mk s1
      clear s1
      go_wp2
      go_loopg [10, 12] (bs.length / 16) (fun kq v10 v12 wr2 => ∃ (j : Nat), Aside (j + kq = bs.length / 16) ∧ Aside (Below w.heap.size w wr2) ∧ Aside (wr2.ownsRow w.heap.size 42 4 v10 (decP data i j).length (nodeCells (decP data i j))) ∧ ∃ A3 n3 c3, v12 = .slice A3 n3 c3 ∧ n3 ≤ 9223372036854775807 ∧ Aside (Sl kbyte wr2 (fun k => ok2 k ∧ k < w.heap.size) (.slice A3 n3 c3) (bs.drop (16 * j))))
      case atStart => exact ⟨0, ⟨by omega⟩, HB, HR, A2, _, c2, rfl, by omega, ⟨by simpa using HS1.out⟩⟩
      case round =>
        clear HB HR HS1 k0
        obtain ⟨j, HJ, HB, HR, A3, n3, c3, rfl, hn3, HS3⟩ := hrel
        have hn : n3 = bs.length - 16 * j := by obtain ⟨A', c', e, _⟩ := HS3.out; cases e; rw [List.length_drop]
        by_cases h16 : 16 ≤ n3
        · have hj16 : 16 * j + 16 ≤ bs.length := by omega
          obtain ⟨b3, o3, e, -⟩ := HS3.out.byte 0 (by rw [List.length_drop]; omega)
          cases e
          have hl16 : 16 ≤ (bs.drop (16 * j)).length := by rw [List.length_drop]; omega
          have hc3 : n3 ≤ c3 := by obtain ⟨A', c', e, h1, _⟩ := HS3.out; cases e; rw [List.length_drop] at h1; omega
          have hc3m : c3 ≤ 9223372036854775807 := by obtain ⟨A', c', e, _, h1, _⟩ := HS3.out; cases e; exact h1
          have HM3 : Aside (bs.length / 16 - (j + 1) < gk) := ⟨by have := HJ.out; omega⟩
          have HX : Aside (decP data i (j + 1) = decP data i j ++ [nodeAt bs (16 * j)]) := ⟨HNx.out j (by omega)⟩
          have hle := HLen.out i j
          have HN3 := Aside.mk hn
          clear hn
          go_wp2_with fail
          refine (number_at 0 0 rfl HS3.out (by omega) hl16).mono ?_
          rintro e w1 ⟨rfl, B1⟩
          have HSa := Aside.mk (HS3.out.below B1)
          have HBa := Aside.mk (bthen HB.out HB.out.size B1)
          have HRa := Aside.mk (ownsRow_move HR.out fun q e => B1.block q (HR.out.lt q e).2)
          clear B1
          go_wp2_with fail
          refine (number_at 1 1 rfl HSa.out (by omega) hl16).mono ?_
          rintro e w2 ⟨rfl, B2⟩
          have HSb := Aside.mk (HSa.out.below B2)
          have HBb := Aside.mk (bthen HBa.out HBa.out.size B2)
          have HRb := Aside.mk (ownsRow_move HRa.out fun q e => B2.block q (HRa.out.lt q e).2)
          clear B2 HSa HBa HRa
          go_wp2_with fail
          refine (number_at 2 2 rfl HSb.out (by omega) hl16).mono ?_
          rintro e w3 ⟨rfl, B3⟩
          have HSc := Aside.mk (HSb.out.below B3)
          have HBc := Aside.mk (bthen HBb.out HBb.out.size B3)
          have HRc := Aside.mk (ownsRow_move HRb.out fun q e => B3.block q (HRb.out.lt q e).2)
          clear B3 HSb HBb HRb
          go_wp2_with fail
          refine (number_at 3 3 rfl HSc.out (by omega) hl16).mono ?_
          rintro e w4 ⟨rfl, B4⟩
          have HSd := Aside.mk (HSc.out.below B4)
          have HBd := Aside.mk (bthen HBc.out HBc.out.size B4)
          have HRd := Aside.mk (ownsRow_move HRc.out fun q e => B4.block q (HRc.out.lt q e).2)
          clear B4 HSc HBc HRc
          have HNode : Aside (nodeAt bs (16 * j) = ⟨numAt (bs.drop (16 * j)) (4 * 0), numAt (bs.drop (16 * j)) (4 * 1), numAt (bs.drop (16 * j)) (4 * 2), numAt (bs.drop (16 * j)) (4 * 3) - 1⟩) := ⟨by simp [nodeAt, numAt_drop]⟩
          obtain ⟨y0, y1⟩ := numAt_in (bs.drop (16 * j)) (4 * 3)
          generalize numAt (bs.drop (16 * j)) (4 * 0) = x0 at *
          generalize numAt (bs.drop (16 * j)) (4 * 1) = x1 at *
          generalize numAt (bs.drop (16 * j)) (4 * 2) = x2 at *
          generalize numAt (bs.drop (16 * j)) (4 * 3) = x3 at *
          go_wp2_with (at_builtin; go_must (refine app_one w.heap.size rfl _ _ 30 42 _ 4 32 rfl Try.underlying30 Try.info42 rfl (by decide) (by decide) u10 (decP data i j).length _ [.int .i64 x0, .int .i64 x1, .int .i64 x2, .int .i64 (x3 - 1)] rfl rfl rfl (by simp [Value.oneCell']) HRd.out HBd.out.size (by omega) ?_; intro v1 w6 hown hg6 hat; have HB6 := Aside.mk (HBd.out.grown hg6 HBd.out.size fun q e => (HRd.out.lt q e).1); have HO6 := Aside.mk hown; have HS6 := Aside.mk (HSd.out.step fun k hk hlt => hg6.block k hlt fun e => by have := hk.2; have := (HRd.out.lt k e.symm).1; omega); clear hown hg6 hat))
          case inl =>
            go_roundg (bs.length / 16 - (j + 1))
            case measure => exact HM3.out
            case rel =>
              refine ⟨j + 1, ⟨by have := HJ.out; have := HN3.out; omega⟩, HB6, ⟨by rw [HX.out, HNode.out, nodeCells_snoc, List.length_append]; exact HO6.out⟩, _, _, _, rfl, by omega, ⟨?_⟩⟩
              have hr := HS6.out.rest0 (i := 16) (by omega) rfl
              rw [List.drop_drop] at hr
              exact hr
          case inr =>
            go_roundg (bs.length / 16 - (j + 1))
            case measure => exact HM3.out
            case rel =>
              refine ⟨j + 1, ⟨by have := HJ.out; have := HN3.out; omega⟩, HB6, ⟨by rw [HX.out, HNode.out, nodeCells_snoc, List.length_append]; exact HO6.out⟩, _, _, _, rfl, by omega, ⟨?_⟩⟩
              have hr := HS6.out.rest (i := 16) hl16
              rw [List.drop_drop] at hr
              exact hr
        · have HJe : Aside (decP data i j = decP data (i + 1) 0) := ⟨by rw [← HRow.out]; congr 1; have := HJ.out; omega⟩
          replace h16 : n3 < 16 := by omega
          rw [HJe.out] at HR
          clear HS3 HNx HRow HJ hn
          go_wp2
          go_roundg (data.length - (i + 1))
          case measure => exact HM.out
          case rel => exact ⟨i + 1, ⟨by have := HM.out; omega⟩, by go_num, HB, HR⟩
    · have hie : decP data i 0 = decF data := by
        have : i = data.length := by have := HI.out; omega
        rw [this, decP_all]
      rw [hie] at HR
      replace hi : data.length ≤ i := by omega
      clear hie HLen HI
      obtain ⟨A1, m1, c1, rfl⟩ := own_slice HR.out
      go_wp2_with fail
      refine (pencode_any gen n (own_nodes HR.out).sl HL.out).mono ?_
      rintro e w1 ⟨E1, E2, B1⟩
      have HB1 := Aside.mk (bthen HB.out HB.out.size B1)
      have HR1 := Aside.mk (ownsRow_move HR.out fun q e => B1.block q (HR.out.lt q e).2)
      have HH1 := Aside.mk (HH.out.below HB1.out)
      have HS1 := Aside.mk (HS.out.below HB1.out)
      clear B1 HR HB
      cases hE : encOk gen n (decF data) with
      | false =>
        obtain rfl := E2 hE
        have HP := Aside.mk (dec_no (head := head) (by unfold decOk; rw [hE]; rfl) HB1.out)
        clear E1 E2 hE
        go_wp2
        go_ret2; exact HP.out
      | true =>
        obtain ⟨hv, dv, vs, rfl, ho, hbl⟩ := E1 hE
        have HE := Aside.mk hE
        have hq := bytesEq_any (own_u8s ho).sl HH1.out
        have HQ2 := Aside.mk (equalFunc_any hbl.sl HS1.out)
        obtain ⟨A4, m4, c4, rfl⟩ := own_slice ho
        obtain ⟨A5, m5, c5, rfl⟩ := own_slice hbl.own
        clear E1 E2 hE ho hbl HH1 HS1 HH HS
        obtain ⟨bb, hbb⟩ : ∃ bb, bb = eqB (headF gen n (decF data).length) head := ⟨_, rfl⟩
        rw [← hbb] at hq
        have HBB := Aside.mk hbb
        clear hbb
        go_wp2_with fail
        refine hq.mono ?_
        clear hq
        rintro e w2 ⟨rfl, rfl⟩
        cases bb with
        | false =>
          have HP := Aside.mk (dec_no (gen := gen) (n := n) (head := head) (data := data) (by unfold decOk; rw [show decide (headF gen n (decF data).length = head) = false from HBB.out.symm]; simp) HB1.out)
          go_wp2
          go_ret2; exact HP.out
        | true =>
          have hq := HQ2.out
          obtain ⟨bc, hbc⟩ : ∃ bc, bc = eqB (dataF (decF data)) data := ⟨_, rfl⟩
          rw [← hbc] at hq
          have HBC := Aside.mk hbc
          clear hbc HQ2
          go_wp2_with fail
          refine hq.mono ?_
          clear hq
          rintro e w3 ⟨rfl, S3⟩
          have HB3 := Aside.mk (bthen HB1.out HB1.out.size (S3.below _))
          have HR3 := Aside.mk (ownsRow_move HR1.out fun q e => (S3.below _).block q (HR1.out.lt q e).2)
          clear S3 HB1 HR1
          cases bc with
          | false =>
            have HP := Aside.mk (dec_no (gen := gen) (n := n) (head := head) (data := data) (by unfold decOk; rw [show decide (dataF (decF data) = data) = false from HBC.out.symm]; simp) HB3.out)
            go_wp2
            go_ret2; exact HP.out
          | true =>
            go_wp2_with fail
            refine (clone_node HR3.out HL.out).mono ?_
            rintro e w4 ⟨v4, rfl, ho4, B4⟩
            have HP : Aside (DecPost w gen n head data (.returned (.tuple #[v4, .int .i64 0])) w4) := ⟨fun _ => ⟨v4, rfl, ho4.mono HB3.out.size⟩, fun e => by
              have e2 : decOk gen n head data = true := by
                unfold decOk
                rw [HE.out, show decide (headF gen n (decF data).length = head) = true from HBB.out.symm, show decide (dataF (decF data) = data) = true from HBC.out.symm]
                rfl
              exact absurd (e2.symm.trans e) (by decide), bthen HB3.out HB3.out.size B4⟩
            obtain ⟨A6, m6, c6, rfl⟩ := own_slice ho4
            clear ho4 B4
            go_wp2
            go_ret2; exact HP.out
end Go.Proofs.Ytikgdhmnnnicmaa
