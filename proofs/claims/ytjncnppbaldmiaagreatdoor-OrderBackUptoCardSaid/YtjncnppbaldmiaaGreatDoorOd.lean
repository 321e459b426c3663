/- order.Decode walked. No condition. -/
import Derived.Test.YtjncnppbaldmiaaGreatDoorOm
import Derived.Test.YtjncnppbaldmiaaGreatDoorOs
namespace Go.Proofs.YtjncnppbaldmiaaGreatDoor
open Go.RowKit Go.Shelf
/-- What is still to be read. -/
def remG (err : Int) (p : Nat) (bs : List UInt8) : List Int := if err = 0 then frG (bs.drop p) else []
def leftG (err : Int) (p : Nat) (bs : List UInt8) : Nat := if err = 0 then bs.length - p else 0
theorem remG_end {err : Int} {p : Nat} {bs : List UInt8} (h : ¬ (err = 0 ∧ p < bs.length)) : remG err p bs = [] := by
  unfold remG
  split
  · rw [List.drop_eq_nil_of_le (by omega), frG_nil]
  · rfl
theorem allG_take {data : List (List UInt8)} {i : Nat} (hi : i < data.length) : allG (data.take (i + 1)) = allG (data.take i) ++ frG data[i] := by
  unfold allG
  rw [take_snoc hi, List.flatMap_append]
  simp
theorem allG_le (data : List (List UInt8)) (i : Nat) : (allG (data.take i)).length ≤ sumL data := Nat.le_trans (allG_len _) (sumL_le data i)
theorem int_o {w : World} {lo R p : Nat} {bv : Value} {bs : List UInt8} (h : Rd lo w R bv bs p 0) (hlt : p < bs.length) :
    Calls Tryz.prog 39 #[.pointer (some ⟨R, 0, none⟩)] w fun e w' => ∃ (xv : Int) (p' : Nat) (err' : Int), e = .returned (.int .i64 xv) ∧ Rd lo w' R bv bs p' err' ∧ remG 0 p bs = xv :: remG err' p' bs ∧ leftG err' p' bs < leftG 0 p bs ∧
      w'.heap.size = w.heap.size ∧ (∀ q, q ≠ R → w'.heap[q]? = w.heap[q]?) ∧ w'.os = w.os ∧ w'.tape = w.tape ∧ w'.output = w.output := by
  refine (int_any h hlt).mono ?_
  rintro e w' ⟨h1, h2, h3⟩
  have hne : bs.drop p ≠ [] := fun e => by have := congrArg List.length e; simp at this; omega
  cases hv : vread (bs.drop p) with
  | none =>
    obtain ⟨rfl, c, hc, hr⟩ := h2 hv
    refine ⟨0, p, c, rfl, hr, ?_, ?_, h3⟩
    · unfold remG
      rw [if_pos rfl, if_neg hc, frG_no hne hv]
    · unfold leftG
      rw [if_pos rfl, if_neg hc]
      omega
  | some xn =>
    obtain ⟨x, n⟩ := xn
    obtain ⟨rfl, hr⟩ := h1 x n hv
    have hn := vread_le hv
    rw [List.length_drop] at hn
    refine ⟨x, p + n, 0, rfl, hr, ?_, ?_, h3⟩
    · unfold remG
      rw [if_pos rfl, if_pos rfl, frG_step hv, List.drop_drop]
    · unfold leftG
      rw [if_pos rfl, if_pos rfl]
      omega
/-- The numbers read so far, in a row of the call's own. -/
structure LD (w0 : World) (v : Value) (acc : List Int) (W : World) : Prop where
  bel : Below w0.heap.size w0 W
  own : W.ownsRow w0.heap.size 3 1 v acc.length (ints acc)
section
variable {w0 W W' w9 : World} {v v1 bv : Value} {acc : List Int} {R lo p : Nat} {bs : List UInt8} {err : Int}
theorem LD.nil (w0 : World) : LD w0 (.slice none 0 0) [] w0 := ⟨Below.refl _ _, World.ownsRow_nil _ _ _ _⟩
theorem LD.below (h : LD w0 v acc W) (hb : Below W.heap.size W W') : LD w0 v acc W' := ⟨bthen h.bel h.bel.size hb, ownsRow_move h.own fun q e => hb.block q (h.own.lt q e).2⟩
theorem LD.far (h : LD w0 v acc W) (hR : w0.heap.size ≤ R) (hn : v.ownBlock ≠ some R) (hz : W'.heap.size = W.heap.size) (hf : ∀ q, q ≠ R → W'.heap[q]? = W.heap[q]?) (ho : W'.os = W.os) (ht : W'.tape = W.tape) (hu : W'.output = W.output) : LD w0 v acc W' :=
  ⟨⟨ho.trans h.bel.os, ht.trans h.bel.tape, hu.trans h.bel.output, by rw [hz]; exact h.bel.size, fun q hq => (hf q (by omega)).trans (h.bel.block q hq)⟩, ownsRow_move h.own fun q e => hf q fun e2 => hn (e2 ▸ e)⟩
theorem LD.snoc (h : LD w0 v acc W) (x : Int) (ho : w9.ownsRow w0.heap.size 3 1 v1 (acc.length + 1) (ints acc ++ [.int .i64 x])) (hg : W.grownBy w9 v.ownBlock) : LD w0 v1 (acc ++ [x]) w9 :=
  ⟨h.bel.grown hg h.bel.size fun q e => (h.own.lt q e).1, by rw [ints_snoc, List.length_append]; exact ho⟩
theorem Rd.grown (h : Rd lo W R bv bs p err) (hg : W.grownBy w9 v.ownBlock) (h1 : v.ownBlock ≠ some R) (h2 : ∀ q, bv.ownBlock = some q → v.ownBlock ≠ some q) : Rd lo w9 R bv bs p err :=
  ⟨(hg.block R (blk_lt h.box) fun e => h1 e.symm).trans h.box, ownsRow_move h.own fun q e => hg.block q (h.own.lt q e).2 fun e2 => h2 q e e2.symm, h.ne, h.lo, h.le⟩
theorem Rd.below (h : Rd lo W R bv bs p err) (hb : Below W.heap.size W W') : Rd lo W' R bv bs p err :=
  ⟨bblk hb h.box, ownsRow_move h.own fun q e => hb.block q (h.own.lt q e).2, h.ne, h.lo, h.le⟩
end
/-- The row of numbers lies apart from the reader. -/
def ApartR (v bv : Value) (R : Nat) : Prop := v.ownBlock ≠ some R ∧ ∀ q, bv.ownBlock = some q → v.ownBlock ≠ some q
theorem ApartR.new {v v1 bv : Value} {R n : Nat} (h : ApartR v bv R) (hR : R < n) (hb : ∀ q, bv.ownBlock = some q → q < n) (hat : v1.ownBlock = v.ownBlock ∨ v1.ownBlock = some (n + 1)) : ApartR v1 bv R := by
  rcases hat with e | e
  · exact ⟨fun h1 => h.1 (e ▸ h1), fun q hq h1 => h.2 q hq (e ▸ h1)⟩
  · refine ⟨fun h1 => ?_, fun q hq h1 => ?_⟩
    · rw [e] at h1; have := Option.some.inj h1; omega
    · rw [e] at h1; have := Option.some.inj h1; have := hb q hq; omega
theorem own_len {w : World} {B s n : Nat} {e : TypeId} {v : Value} {xs : List Value} (h : w.ownsRow B e s v n xs) : ∃ A c, v = .slice A n c := by
  rcases h.2 with ⟨rfl, h0⟩ | ⟨g, cap, cur, rfl, _⟩
  · subst h0; exact ⟨_, _, rfl⟩
  · exact ⟨_, _, rfl⟩
/-- What Decode answers. -/
def DecO (w : World) (r : Option (List Int)) (e : Ending) (w' : World) : Prop :=
  (∀ l, r = some l → ∃ v, e = .returned (.tuple #[v, .int .i64 0]) ∧ w'.ownsRow w.heap.size 3 1 v l.length (ints l)) ∧
  (r = none → e = .returned (.tuple #[.slice none 0 0, .int .i64 90])) ∧ Below w.heap.size w w'
theorem decO_no {w w' : World} {r : Option (List Int)} (h : r = none) (hb : Below w.heap.size w w') : DecO w r (.returned (.tuple #[.slice none 0 0, .int .i64 90])) w' :=
  ⟨fun l e => absurd (h.symm.trans e) (by simp), fun _ => rfl, hb⟩
theorem decO_yes {w w' : World} {r : Option (List Int)} {v : Value} {l : List Int} (h : r = some l) (ho : w'.ownsRow w.heap.size 3 1 v l.length (ints l)) (hb : Below w.heap.size w w') : DecO w r (.returned (.tuple #[v, .int .i64 0])) w' :=
  ⟨fun l' e => by obtain rfl := Option.some.inj (h.symm.trans e); exact ⟨v, rfl, ho⟩, fun e => absurd (h.symm.trans e) (by simp), hb⟩
set_option maxHeartbeats 8000000 in
set_option maxRecDepth 100000 in
theorem decode_any {w : World} {ok : Nat → Prop} {hv dv : Value} {gen n : Int} {head : List UInt8} {data : List (List UInt8)} (hh : Sl kbyte w ok hv head) (hd : Sl (kslice kbyte) w ok dv data) (hs : sumL data ≤ 1073741824) :
    Calls Tryz.prog 21 #[.int .i64 gen, .int .i64 n, hv, dv] w (DecO w (decO gen n head data)) := by
  obtain ⟨Ah, ch, rfl, hch, hmh⟩ := hh.slice
  obtain ⟨Ad, cd, rfl, hcd, hmd⟩ := hd.slice
  have HH := Aside.mk hh
  have HD := Aside.mk hd
  have HS := Aside.mk hs
  have HL0 := Aside.mk (LD.nil w)
  clear hh hd hs
  go_enter Tryz.func21, Tryz.ntmps21
  go_wp2_with fail
  go_loopg [10, 19] data.length (fun kq v10 v19 wr => ∃ (i : Nat), Aside (i + kq = data.length) ∧ v19 = .int .i64 i ∧ Aside (LD w v10 (allG (data.take i)) wr))
  case atStart => exact ⟨0, ⟨by omega⟩, rfl, HL0⟩
  case round =>
    clear HL0
    obtain ⟨i, HI, rfl, HL⟩ := hrel
    obtain ⟨wo, hwo⟩ : ∃ wo, wo = wr := ⟨_, rfl⟩
    subst hwo
    by_cases hi : i < data.length
    · obtain ⟨b, o, q1, e, h1, s1⟩ := (HD.out.below HL.out.bel).row i hi
      cases e
      have hM : Aside (data.length - (i + 1) < gk ∧ i + 1 + (data.length - (i + 1)) = data.length) := ⟨by have := HI.out; omega⟩
      have HT := Aside.mk (allG_take hi)
      have HLe := Aside.mk (allG_le data (i + 1))
      have hbl : data[i].length ≤ 1099511627776 := by
        have h1 := sumL_take hi
        have h2 := sumL_le data (i + 1)
        have := HS.out
        omega
      obtain ⟨A3, c3, rfl, _⟩ := s1.slice
      have hcall := newReader_any s1 hbl
      generalize data[i] = bs at *
      have hi1 : (i : Int) < (data.length : Int) := by omega
      have hi0 : (0 : Int) ≤ (i : Int) := by omega
      go_wp2_with fail
      refine hcall.mono ?_
      clear hcall s1 h1
      rintro e w2 ⟨R, bv, rfl, hR, B2⟩
      have HRl : Aside (w.heap.size ≤ R) := ⟨by have := hR.lo; have := HL.out.bel.size; omega⟩
      have HN0 : Aside (ApartR u10 bv R) := ⟨⟨fun e => by have := (HL.out.own.lt R e).2; have := hR.lo; omega, fun q e e2 => by have := (HL.out.own.lt q e2).2; have := (hR.own.lt q e).1; omega⟩⟩
      have HR0 := Aside.mk hR
      have HLs0 := Aside.mk (HL.out.below B2)
      have HF0 : Aside (allG (data.take i) ++ frG bs = allG (data.take i) ++ remG 0 0 bs) := ⟨by unfold remG; simp⟩
      clear hR B2 HL
      go_wp2_with fail
      go_loopg [10] (leftG 0 0 bs) (fun kq v10 wr2 => ∃ (p : Nat) (err : Int) (acc : List Int), Aside (Rd wo.heap.size wr2 R bv bs p err) ∧ Aside (LD w v10 acc wr2) ∧ Aside (kq = leftG err p bs) ∧ Aside (allG (data.take i) ++ frG bs = acc ++ remG err p bs) ∧ Aside (ApartR v10 bv R))
      case atStart => exact ⟨0, 0, _, HR0, HLs0, ⟨rfl⟩, HF0, HN0⟩
      case round =>
        clear HR0 HLs0 HF0 HN0
        obtain ⟨p, err, acc, HR, HLs, HK, HF, HN⟩ := hrel
        have hcall := left_any HR.out
        have hple := HR.out.le
        obtain ⟨A9, n9, c9, rfl⟩ := own_slice HLs.out.own
        by_cases hgo : err = 0 ∧ p < bs.length
        · obtain ⟨rfl, hlt⟩ := hgo
          rw [if_pos rfl] at hcall
          have hlt' : decide ((0 : Int) < (bs.length : Int) - (p : Int)) = true := decide_eq_true (by omega)
          go_wp2_with fail
          refine hcall.mono ?_
          clear hcall
          rintro e w5 ⟨rfl, q5, rfl⟩
          have B5 : Below wr.heap.size wr (wr.drewN q5) := bdrew (Below.refl _ _) q5
          have HR5 := Aside.mk (HR.out.below B5)
          have HL5 := Aside.mk (HLs.out.below B5)
          clear B5 HR HLs
          generalize wr.drewN q5 = w5 at *
          have hint := int_o HR5.out hlt
          go_wp2_with fail
          refine hint.mono ?_
          clear hint
          rintro e w6 ⟨xv, p', err', rfl, hr6, hrem, hlft, hz6, hf6, ho6, ht6, hu6⟩
          have HL6 := Aside.mk (HL5.out.far HRl.out HN.out.1 hz6 hf6 ho6 ht6 hu6)
          have HR6 := Aside.mk hr6
          have HP6 := Aside.mk (And.intro hrem hlft)
          have HZ6 : Aside (R < w6.heap.size ∧ ∀ q, bv.ownBlock = some q → q < w6.heap.size) := ⟨⟨blk_lt hr6.box, fun q e => (hr6.own.lt q e).2⟩⟩
          have HLen : Aside (acc.length ≤ 1073741824) := ⟨by
            have h1 := congrArg List.length HF.out
            have h2 := HLe.out
            have h3 := HS.out
            rw [HT.out] at h2
            simp only [List.length_append] at h1 h2
            omega⟩
          have HB6 : Aside (w.heap.size ≤ w6.heap.size) := ⟨HL6.out.bel.size⟩
          clear hr6 hrem hlft hz6 hf6 ho6 ht6 hu6 HL5 HR5
          go_wp2_with (at_builtin; go_must (refine app_one w.heap.size rfl _ _ 22 3 (.int .i64 0) 1 8 rfl Tryz.underlying22 Tryz.infoInt rfl (by decide) (by decide) (.slice A9 n9 c9) acc.length _ [.int .i64 xv] rfl rfl rfl (by simp [Value.oneCell']) HL6.out.own HB6.out (by have := HLen.out; omega) ?_; intro v1 w9 hown hg9 hat; have HL9 := Aside.mk (HL6.out.snoc xv hown hg9); have HR9 := Aside.mk (HR6.out.grown hg9 HN.out.1 HN.out.2); have HN9 := Aside.mk (HN.out.new HZ6.out.1 HZ6.out.2 hat); clear hown hg9 hat))
          go_roundg (leftG err' p' bs)
          case measure => rw [HK.out]; exact HP6.out.2
          case rel => exact ⟨p', err', acc ++ [xv], HR9, HL9, ⟨rfl⟩, ⟨by rw [HF.out, HP6.out.1]; simp⟩, HN9⟩
        · have hval : (if err = 0 then (bs.length : Int) - (p : Int) else 0) = 0 := by split <;> omega
          rw [hval] at hcall
          have HE := Aside.mk (remG_end hgo)
          clear hgo
          go_wp2_with fail
          refine hcall.mono ?_
          clear hcall
          rintro e w5 ⟨rfl, q5, rfl⟩
          have B5 : Below wr.heap.size wr (wr.drewN q5) := bdrew (Below.refl _ _) q5
          have HL5 : Aside (LD w (.slice A9 n9 c9) (allG (data.take (i + 1))) (wr.drewN q5)) := ⟨by
            have h := HF.out
            rw [HE.out, List.append_nil] at h
            rw [HT.out, h]
            exact HLs.out.below B5⟩
          clear B5 HR HLs HF HE HK HN
          generalize wr.drewN q5 = w5 at *
          go_wp2_with fail
          go_roundg (data.length - (i + 1))
          case measure => exact hM.out.1
          case rel => exact ⟨i + 1, ⟨hM.out.2⟩, by go_num, HL5⟩
    · have hie : data.take i = data := List.take_of_length_le (by omega)
      rw [hie] at HL
      replace hi : data.length ≤ i := by omega
      have HLl : Aside ((allG data).length ≤ 1073741824) := ⟨Nat.le_trans (allG_len data) HS.out⟩
      obtain ⟨L, hL⟩ : ∃ L, L = allG data := ⟨_, rfl⟩
      rw [← hL] at HL HLl
      have HDe : Aside (decO gen n head data = if ordB gen L = true ∧ (L.length : Int) = n ∧ headO gen L = head ∧ dataD L = data then some L else none) := ⟨by rw [hL]; rfl⟩
      obtain ⟨A9, c9, rfl⟩ := own_len HL.out.own
      have hcall := encode_any (gen := gen) (own_ints HL.out.own).sl (by have := HLl.out; omega)
      clear hie hL
      go_wp2_with fail
      refine hcall.mono ?_
      clear hcall
      intro e w6 hp
      obtain ⟨he1, he2, hB⟩ := hp
      have HL6 := Aside.mk (HL.out.below hB)
      have HB6 := Aside.mk (bthen HL.out.bel HL.out.bel.size hB)
      have HBw := Aside.mk HL.out.bel.size
      clear hB HL
      cases hob : ordB gen L with
      | false =>
        obtain rfl := he2 hob
        have HP := Aside.mk (decO_no (r := decO gen n head data) (by rw [HDe.out, if_neg (by rw [hob]; simp)]) HB6.out)
        clear he1 he2 hob HDe
        go_wp2_with fail
        exact bodyPost_ret (by simp [results, Tryz.results21, go_sem]) rfl HP.out
      | true =>
        obtain ⟨hv2, dv2, vs2, rfl, ho2, hb2⟩ := he1 hob
        have HHd := Aside.mk (own_u8s ho2).sl
        have HDd := Aside.mk hb2.sl
        clear he1 he2 ho2 hb2
        by_cases hn : (L.length : Int) = n
        · have hne : ((L.length : Int) != n) = false := by simp [hn]
          have hbe := bytesEq_any HHd.out (HH.out.below HB6.out)
          have hef := equalFunc_any HDd.out (HD.out.below HB6.out)
          have HDe2 : Aside (decO gen n head data = if headO gen L = head ∧ dataD L = data then some L else none) := ⟨by rw [HDe.out, hob]; simp only [hn, true_and]⟩
          clear hob HDe
          obtain ⟨hbb, hhb⟩ : ∃ hbb, hbb = eqB (headO gen L) head := ⟨_, rfl⟩
          have HHb := Aside.mk hhb
          rw [← hhb] at hbe
          clear hhb
          go_wp2_with fail
          refine hbe.mono ?_
          clear hbe
          rintro e w7 ⟨rfl, hw7⟩
          subst hw7
          cases hbb with
          | false =>
            have HP := Aside.mk (decO_no (r := decO gen n head data) (by rw [HDe2.out, if_neg (fun h => by have := HHb.out; rw [eqB_yes h.1] at this; cases this)]) HB6.out)
            clear hef
            go_wp2_with fail
            exact bodyPost_ret (by simp [results, Tryz.results21, go_sem]) rfl HP.out
          | true =>
            have HHe : Aside (headO gen L = head) := ⟨eqB_iff.1 HHb.out.symm⟩
            obtain ⟨dbb, hdb⟩ : ∃ dbb, dbb = eqB (dataD L) data := ⟨_, rfl⟩
            have HDb := Aside.mk hdb
            rw [← hdb] at hef
            clear hdb
            go_wp2_with fail
            refine hef.mono ?_
            clear hef
            rintro e w8 ⟨rfl, ⟨⟨q8, rfl⟩⟩⟩
            have B8 : Below w7.heap.size w7 (w7.drewN q8) := bdrew (Below.refl _ _) q8
            have HB8 := Aside.mk (bthen HB6.out HB6.out.size B8)
            have HL8 := Aside.mk (HL6.out.below B8)
            clear B8 HL6 HB6
            generalize w7.drewN q8 = w9 at *
            cases dbb with
            | false =>
              have HP := Aside.mk (decO_no (r := decO gen n head data) (by rw [HDe2.out, if_neg (fun h => by have := HDb.out; rw [eqB_yes h.2] at this; cases this)]) HB8.out)
              go_wp2_with fail
              exact bodyPost_ret (by simp [results, Tryz.results21, go_sem]) rfl HP.out
            | true =>
              have HP := Aside.mk (decO_yes (r := decO gen n head data) (by rw [HDe2.out, if_pos ⟨HHe.out, eqB_iff.1 HDb.out.symm⟩]) HL8.out.own HB8.out)
              go_wp2_with fail
              exact bodyPost_ret (by simp [results, Tryz.results21, go_sem]) rfl HP.out
        · have hne : ((L.length : Int) != n) = true := by simp [hn]
          have HP := Aside.mk (decO_no (r := decO gen n head data) (by rw [HDe.out, if_neg (fun h => hn h.2.1)]) HB6.out)
          clear hob HDe hn
          go_wp2_with fail
          exact bodyPost_ret (by simp [results, Tryz.results21, go_sem]) rfl HP.out
end Go.Proofs.YtjncnppbaldmiaaGreatDoor
