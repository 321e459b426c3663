/- Lists of bytes copied; rows with marks behind them. No condition. -/
import Derived.Test.YtjncnppbaldmiaaGreatDoorOq
namespace Go.Proofs.YtjncnppbaldmiaaGreatDoor
open Go.RowKit Go.Shelf Go
def BLPost (w : World) (bss : List (List UInt8)) (e : Ending) (w' : World) : Prop := ∃ v vs, e = .returned v ∧ BL w' w.heap.size v vs bss ∧ Below w.heap.size w w'
set_option maxHeartbeats 4000000 in
set_option maxRecDepth 100000 in
theorem ByteLists_any {w : World} {ok : Nat → Prop} {v : Value} {bss : List (List UInt8)} (hs : Sl (kslice kbyte) w ok v bss) (hl : bss.length ≤ 16777216) (hb : ∀ bs ∈ bss, bs.length ≤ 1099511627776) : Calls Tryz.prog 19 #[v] w (BLPost w bss) := by
  obtain ⟨A, c, rfl, hc, hm⟩ := hs.slice
  obtain ⟨i0, hi0, hz0, hz1, hz2⟩ := info_parts Tryz.infoBytes
  have hmk : (Instr.makeSlice 26 (.int .i64 0) (.int .i64 (bss.length : Int))).run Tryz.prog w = .ok (.slice (some ⟨w.heap.size, 0, none⟩) 0 bss.length) (w.alloc (.cells (madeCells #[.slice none 0 0] bss.length) 25)) := by
    have h := run_make (P := Tryz.prog) w 26 25 i0 _ Tryz.underlying26 hi0 hz0 .i64 .i64 0 (bss.length : Int) (by omega) (by omega) (by rw [hz2]; omega) (by omega)
    have e : (bss.length : Int).toNat = bss.length := by omega
    rw [e, hz1] at h
    simpa [Value.cells] using h
  have HR0 : Aside (BL (w.alloc (.cells (madeCells #[.slice none 0 0] bss.length) 25)) w.heap.size (.slice (some ⟨w.heap.size, 0, none⟩) 0 bss.length) [] (bss.take 0)) := ⟨⟨World.ownsRow_made w _ bss.length (Nat.le_refl _) (by simp only [maxLen]; omega) (by rw [size_madeCells]; omega), by simp, by simp⟩⟩
  have HB0 := Aside.mk ((Below.refl w.heap.size w).alloc (Nat.le_refl _) (.cells (madeCells #[.slice none 0 0] bss.length) 25))
  have HS := Aside.mk hs
  have HBb := Aside.mk hb
  clear hs hb hi0 hz0 hz1 hz2
  go_enter Tryz.func19, Tryz.ntmps19
  go_wp2
  clear hmk
  generalize w.alloc (.cells (madeCells #[.slice none 0 0] bss.length) 25) = w0 at *
  go_loopg [3, 4] bss.length (fun kq v3 v4 wr => ∃ (i : Nat) (vs : List Value), Aside (i + kq = bss.length) ∧ v4 = .int .i64 i ∧ Aside (Below w.heap.size w wr) ∧ Aside (BL wr w.heap.size v3 vs (bss.take i)))
  case atStart => exact ⟨0, [], ⟨by omega⟩, rfl, HB0, HR0⟩
  case round =>
    clear HR0 HB0
    obtain ⟨i, vs, HI, rfl, HB, HR⟩ := hrel
    obtain ⟨A3, m3, c3, rfl⟩ := own_slice HR.out.own
    by_cases hi : i < bss.length
    · obtain ⟨b, o, bv, e, k0, s1⟩ := (HS.out.below HB.out).row i hi
      cases e
      have HM : Aside (bss.length - (i + 1) < gk) := ⟨by have := HI.out; omega⟩
      have HT := Aside.mk (take_snoc hi)
      have hbi : bss[i].length ≤ 1099511627776 := HBb.out _ (List.getElem_mem hi)
      have HLi : Aside ((bss.take i).length ≤ 16777216) := ⟨by rw [List.length_take]; omega⟩
      generalize bss[i] = bs at *
      obtain ⟨A2, c2, rfl, hc2, hm2⟩ := s1.slice
      have hcall := Bytes_any s1 hbi
      clear s1
      go_wp2_with fail
      refine hcall.mono ?_
      clear hcall k0
      rintro e w5 ⟨v5, rfl, ho5, B5⟩
      have HBL := Aside.mk (HR.out.below B5)
      have HB5 := Aside.mk (bthen HB.out HB.out.size B5)
      have HO5 := Aside.mk (own_low ho5 HB.out.size)
      have HNe : Aside (∀ q, v5.ownBlock = some q → Value.ownBlock (.slice A3 m3 c3) ≠ some q) := ⟨fun q e e2 => by
        have h1 := (ho5.lt q e).1
        have h2 := (HR.out.own.lt q e2).2
        omega⟩
      obtain ⟨A5, m5, c5, rfl⟩ := own_slice ho5
      have HOwn := Aside.mk HBL.out.own
      have HNext : Aside (∀ (v1 : Value) (w9 : World), w9.ownsRow w.heap.size 25 1 v1 ((bss.take i).length + 1) (vs ++ [.slice A5 m5 c5]) → w5.grownBy w9 (Value.ownBlock (.slice A3 m3 c3)) →
          (v1.ownBlock = Value.ownBlock (.slice A3 m3 c3) ∨ v1.ownBlock = some (w5.heap.size + 1)) → BL w9 w.heap.size v1 (vs ++ [.slice A5 m5 c5]) (bss.take (i + 1)) ∧ Below w.heap.size w w9) := ⟨fun v1 w9 hown hg hat => by
        have h1 := HBL.out.snoc HO5.out HNe.out hown hg (by rcases hat with e | e; exact .inl e; exact .inr ⟨_, e, by omega⟩)
        rw [HT.out]
        exact ⟨h1, HB5.out.grown hg HB5.out.size fun q e => (HBL.out.own.lt q e).1⟩⟩
      clear ho5 B5 HB HR HO5 HNe HBL
      generalize (bss.take i).length = li at *
      go_wp2_with (at_builtin; go_must (refine app_one w.heap.size rfl _ _ 26 25 (.slice none 0 0) 1 24 rfl Tryz.underlying26 Tryz.infoBytes rfl (by decide) (by decide) (.slice A3 m3 c3) li vs [.slice A5 m5 c5] rfl rfl rfl (by simp [Value.oneCell']) HOwn.out HB5.out.size (by have := HLi.out; omega) ?_; intro v1 w9 hown hg hat; obtain ⟨hb9, hw9⟩ := HNext.out v1 w9 hown hg hat; have HB9 := Aside.mk hb9; have HW9 := Aside.mk hw9; clear hown hg hat hb9 hw9))
      go_roundg (bss.length - (i + 1))
      case measure => exact HM.out
      case rel => exact ⟨i + 1, _, ⟨by have := HI.out; have := HM.out; omega⟩, by go_num, HW9, HB9⟩
    · have ht : bss.take i = bss := List.take_of_length_le (by omega)
      have HP : Aside (BLPost w bss (.returned (.slice A3 m3 c3)) wr) := ⟨_, vs, rfl, by rw [← ht]; exact HR.out, HB.out⟩
      replace hi : bss.length ≤ i := by omega
      clear ht HR HB
      go_wp2
      go_ret
      exact HP.out
/-- A row of bytes with marks behind it, in a block of its own. -/
def LRow (w : World) (lo : Nat) (u : Value) (bs marks : List UInt8) : Prop :=
  ∃ g cap, u = .slice (some ⟨g, 0, none⟩) bs.length cap ∧ w.ownsRow lo 5 1 (.slice (some ⟨g, 0, none⟩) (bs ++ marks).length cap) (bs ++ marks).length (u8s (bs ++ marks))
theorem LRow.at {w : World} {lo : Nat} {u : Value} {bs marks : List UInt8} (h : LRow w lo u bs marks) : ∃ g, u.ownBlock = some g ∧ lo ≤ g ∧ ∃ c, w.heap[g]? = some (.cells c 5 (0, 0)) := by
  obtain ⟨g, cap, rfl, ho⟩ := h
  obtain ⟨c, hc⟩ := ownsRow_cells ho (q := g) rfl
  exact ⟨g, rfl, (ho.lt g rfl).1, c, hc⟩
theorem LRow.move {w w1 : World} {lo : Nat} {u : Value} {bs marks : List UInt8} (h : LRow w lo u bs marks) (hm : ∀ q, u.ownBlock = some q → w1.heap[q]? = w.heap[q]?) : LRow w1 lo u bs marks := by
  obtain ⟨g, cap, rfl, ho⟩ := h
  exact ⟨g, cap, rfl, ownsRow_move ho fun q e => hm q e⟩
theorem LRow.low {w : World} {lo lo1 : Nat} {u : Value} {bs marks : List UInt8} (h : LRow w lo u bs marks) (hl : lo1 ≤ lo) : LRow w lo1 u bs marks := by
  obtain ⟨g, cap, rfl, ho⟩ := h
  exact ⟨g, cap, rfl, own_low ho hl⟩
theorem Sl.front {α : Type} {K : Kind α} {w : World} {ok : Nat → Prop} {A : Option Addr} {n c : Nat} {xs ys : List α} (h : Sl K w ok (.slice A n c) (xs ++ ys)) : Sl K w ok (.slice A xs.length c) xs := by
  obtain ⟨A', c', e, h1, h2, h3⟩ := h
  cases e
  rw [List.length_append] at h1 h3
  refine ⟨A, c, rfl, by omega, h2, fun h0 => ?_⟩
  obtain ⟨b, o, e, hb, hl, hx⟩ := h3 (by omega)
  exact ⟨b, o, e, hb, hl, fun i x hi => hx i x (by rw [List.getElem?_append_left (List.getElem?_eq_some_iff.1 hi).1]; exact hi)⟩
theorem LRow.sl {w : World} {lo : Nat} {u : Value} {bs marks : List UInt8} (h : LRow w lo u bs marks) : Sl kbyte w (fun q => lo ≤ q ∧ u.ownBlock = some q) u bs := by
  obtain ⟨g, cap, rfl, ho⟩ := h
  exact (row_bytes ho).front
/-- The cells behind the row. -/
theorem LRow.cells {w : World} {lo g n cap : Nat} {bs marks : List UInt8} (h : LRow w lo (.slice (some ⟨g, 0, none⟩) n cap) bs marks) : n = bs.length ∧ (bs ++ marks).length ≤ cap ∧ cap ≤ 9223372036854775807 ∧ ∀ j (hj : j < (bs ++ marks).length), w.cell? ⟨g, j, none⟩ = some (.int .u8 (bs ++ marks)[j].toNat) := by
  obtain ⟨g', cap', e, ho⟩ := h
  cases e
  have hs := row_bytes ho
  refine ⟨rfl, ?_, ?_, fun j hj => ?_⟩
  · obtain ⟨A, c, e, h1, h2, _⟩ := hs
    cases e
    exact h1
  · obtain ⟨A, c, e, h1, h2, _⟩ := hs
    cases e
    exact h2
  · obtain ⟨b, o, e, hc⟩ := hs.byte j hj
    cases e
    simpa using hc
/-- A byte of it written over. -/
theorem LRow.set {w : World} {lo g n cap k : Nat} {bs marks : List UInt8} (h : LRow w lo (.slice (some ⟨g, 0, none⟩) n cap) bs marks) (hk : k < bs.length) (y : UInt8) :
    LRow (w.setCell ⟨g, k, none⟩ (.int .u8 y.toNat)) lo (.slice (some ⟨g, 0, none⟩) n cap) (bs.set k y) marks := by
  obtain ⟨g', cap', e, ho⟩ := h
  cases e
  refine ⟨g, cap, by rw [List.length_set], ?_⟩
  have hs2 : bs.set k y ++ marks = (bs ++ marks).set k y := by rw [List.set_append_left _ _ hk]
  rw [hs2, List.length_set]
  refine ⟨by rw [u8s_length, List.length_set, Nat.mul_one], ?_⟩
  rcases ho.2 with ⟨e, _⟩ | ⟨g', cap', cur, e, h1, h2, h3, h4, h5, h6⟩
  · cases e
  · cases e
    refine .inr ⟨g, cap, cur.setIfInBounds k (.int .u8 y.toNat), rfl, h1, ?_, h3, h4, by simpa using h5, ?_⟩
    · simp [World.setCell, Array.getElem?_modify, h2]
    · rw [Array.toList_setIfInBounds, List.take_set, h6]
      simp [u8s, List.map_set]
theorem own_pos {w : World} {B s n : Nat} {e : TypeId} {v : Value} {xs : List Value} (h : w.ownsRow B e s v n xs) (h0 : 0 < n) : ∃ g cap, v = .slice (some ⟨g, 0, none⟩) n cap ∧ n ≤ cap ∧ cap ≤ 9223372036854775807 := by
  rcases h.2 with ⟨_, e⟩ | ⟨g, cap, cur, rfl, _, _, h1, h2, _⟩
  · omega
  · exact ⟨g, cap, rfl, h1, by simpa only [maxLen] using h2⟩
end Go.Proofs.YtjncnppbaldmiaaGreatDoor
