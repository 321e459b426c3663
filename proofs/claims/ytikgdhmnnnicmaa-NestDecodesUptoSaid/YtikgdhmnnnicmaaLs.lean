/- pithfix.Stays, StayLists walked: true, as long as nobody wrote. No condition. -/
import Derived.Test.YtikgdhmnnnicmaaRd
namespace Go.Proofs.Ytikgdhmnnnicmaa
section
open Go.RowKit Go.Shelf Go
theorem run_append_none' {P : Program} {w : World} (base : Nat) (t ty e : TypeId) (i : TypeInfo) (size c : Nat) (ht : P.underlying t = some (.slice e)) (hi : P.info? e = some i)
    (v : Value) (n : Nat) (xs : List Value) (hown : w.ownsRow base e size v n xs) :
    (Builtin.append_ #[t, t] ty #[v, .slice none 0 c]).run P w = .ok v w := by
  rcases hown.2 with ⟨rfl, rfl⟩ | ⟨g, cap, cur, rfl, _, _, hnc, _⟩
  · simp [Builtin.append_, run_underlying ht, sizeOf, typeInfo, hi, Builtin.lenOf, Builtin.firstCells]
  · simp [Builtin.append_, run_underlying ht, sizeOf, typeInfo, hi, Builtin.lenOf, Builtin.firstCells, hnc, storeCells]
/-- append(v, x...) of bytes that lie anywhere. -/
theorem app_bytes {ops : Array Oper} {rest : List Oper} {o : Oper} {a : Act} {Q : Exit → Act → World → Prop} {w : World} {ok : Nat → Prop} (B : Nat) (hgd : o.guard = none) (s x : Operand)
    (ho : o.op = .call { callee := .builtin .append, args := #[s, x], argTypes := #[52, 52] })
    (v : Value) (n : Nat) (xs : List Value) (A : Option Addr) (c : Nat) (ys : List UInt8) (hs : a.eval s = v) (hx : a.eval x = .slice A ys.length c) (HO : w.ownsRow B 5 1 v n xs) (hy : Sl kbyte w ok (.slice A ys.length c) ys) (hbase : B ≤ w.heap.size)
    (hl : n + ys.length ≤ 140737488355328)
    (h : ∀ v1 w1, w1.ownsRow B 5 1 v1 (n + ys.length) (xs ++ u8s ys) → w.grownBy w1 v.ownBlock → (v1.ownBlock = v.ownBlock ∨ v1.ownBlock = some w.heap.size) → wpList Try.prog ops Q rest (a.put o.dst v1) w1) :
    wpList Try.prog ops Q (o :: rest) a w := by
  obtain ⟨i0, hi, hz0, hz1, hz2⟩ := info_parts Try.infoByte
  cases A with
  | none =>
    have h0 : ys = [] := by
      obtain ⟨A', c', e, _, _, h3⟩ := hy
      rcases Nat.eq_zero_or_pos ys.length with q | q
      · exact List.eq_nil_of_length_eq_zero q
      · obtain ⟨b, o, e2, _⟩ := h3 q
        cases e
        cases e2
    subst h0
    refine wpList_plain hgd fun K hK => ?_
    have hrun := run_append_none' (P := Try.prog) (w := w) B 52 o.type 5 i0 1 c Try.underlying52 hi v n xs HO
    unfold Oper.wp
    simp only [List.length_nil] at hx
    simp [execOp, ho, resolve, invoke, builtin, hs, hx, hrun, Result.andThen]
    exact hK _ _ (h v w (by simpa [u8s] using HO) ⟨rfl, rfl, rfl, Nat.le_refl _, fun _ _ _ => rfl⟩ (.inl rfl))
  | some ad =>
    refine wpList_append_own_at w hgd s x 52 ho B 5 i0 _ 1 1 Try.underlying52 hi hz0 hz1 hz2 rfl (by decide) v n xs hs HO ad ys.length c (u8s ys) hx (by rw [u8s_length, Nat.mul_one]) (fun j u hj => ?_)
      (fun u hu => by unfold u8s at hu; obtain ⟨b, _, rfl⟩ := List.mem_map.1 hu; rfl) (by simp only [maxLen]; omega) (by omega) hbase fun v1 w1 h1 h2 _ h4 => h v1 w1 h1 h2 h4
    have hjl : j < ys.length := by have := (List.getElem?_eq_some_iff.1 hj).1; rwa [u8s_length] at this
    obtain ⟨b, o', e, hc⟩ := hy.byte j hjl
    cases e
    rw [addr_add, hc]
    unfold u8s at hj
    rw [List.getElem?_map, List.getElem?_eq_getElem hjl] at hj
    simpa using hj
def BytesPost (w : World) (bs : List UInt8) (e : Ending) (w' : World) : Prop := ∃ v, e = .returned v ∧ w'.ownsRow w.heap.size 5 1 v bs.length (u8s bs) ∧ Below w.heap.size w w'
set_option maxHeartbeats 4000000 in
set_option maxRecDepth 100000 in
theorem Bytes_any {w : World} {ok : Nat → Prop} {v : Value} {bs : List UInt8} (hs : Sl kbyte w ok v bs) (hl : bs.length ≤ 1099511627776) : Calls Try.prog 29 #[v] w (BytesPost w bs) := by
  obtain ⟨A, c, rfl, hc, hm⟩ := hs.slice
  obtain ⟨i0, hi0, hz0, hz1, hz2⟩ := info_parts Try.infoByte
  have hmk : (Instr.makeSlice 52 (.int .i64 0) (.int .i64 (bs.length : Int))).run Try.prog w = .ok (.slice (some ⟨w.heap.size, 0, none⟩) 0 bs.length) (w.alloc (.cells (madeCells #[.int .u8 0] bs.length) 5)) := by
    have h := run_make (P := Try.prog) w 52 5 i0 _ Try.underlying52 hi0 hz0 .i64 .i64 0 (bs.length : Int) (by omega) (by omega) (by rw [hz2]; omega) (by omega)
    have e : (bs.length : Int).toNat = bs.length := by omega
    rw [e, hz1] at h
    simpa [Value.cells] using h
  have HR0 : Aside ((w.alloc (.cells (madeCells #[.int .u8 0] bs.length) 5)).ownsRow w.heap.size 5 1 (.slice (some ⟨w.heap.size, 0, none⟩) 0 bs.length) 0 []) := ⟨World.ownsRow_made w _ bs.length (Nat.le_refl _) (by simp only [maxLen]; omega) (by rw [size_madeCells]; omega)⟩
  have HB0 := Aside.mk ((Below.refl w.heap.size w).alloc (Nat.le_refl _) (.cells (madeCells #[.int .u8 0] bs.length) 5))
  have HS0 := Aside.mk (hs.below HB0.out)
  clear hs hi0 hz0 hz1 hz2
  go_enter Try.func29, Try.ntmps29
  go_wp2_with (at_builtin; go_must (refine app_bytes w.heap.size rfl _ _ rfl _ 0 [] A c bs rfl rfl HR0.out HS0.out HB0.out.size (by omega) ?_; intro v1 w1 hown hg hat; obtain ⟨A1, m1, c1, rfl⟩ := own_slice hown; have HP : Aside (BytesPost w bs (.returned (.slice A1 m1 c1)) w1) := ⟨_, rfl, by simpa using hown, HB0.out.grown hg HB0.out.size fun q e => (HR0.out.lt q e).1⟩; clear hown hg hat))
  go_ret
  exact HP.out
end
section
open Go.RowKit Go.Shelf Go
def BLPost (w : World) (bss : List (List UInt8)) (e : Ending) (w' : World) : Prop := ∃ v vs, e = .returned v ∧ BL w' w.heap.size v vs bss ∧ Below w.heap.size w w'
set_option maxHeartbeats 4000000 in
set_option maxRecDepth 100000 in
theorem ByteLists_any {w : World} {ok : Nat → Prop} {v : Value} {bss : List (List UInt8)} (hs : Sl (kslice kbyte) w ok v bss) (hl : bss.length ≤ 16777216) (hb : ∀ bs ∈ bss, bs.length ≤ 1099511627776) : Calls Try.prog 30 #[v] w (BLPost w bss) := by
  obtain ⟨A, c, rfl, hc, hm⟩ := hs.slice
  obtain ⟨i0, hi0, hz0, hz1, hz2⟩ := info_parts Try.infoBytes
  have hmk : (Instr.makeSlice 53 (.int .i64 0) (.int .i64 (bss.length : Int))).run Try.prog w = .ok (.slice (some ⟨w.heap.size, 0, none⟩) 0 bss.length) (w.alloc (.cells (madeCells #[.slice none 0 0] bss.length) 52)) := by
    have h := run_make (P := Try.prog) w 53 52 i0 _ Try.underlying53 hi0 hz0 .i64 .i64 0 (bss.length : Int) (by omega) (by omega) (by rw [hz2]; omega) (by omega)
    have e : (bss.length : Int).toNat = bss.length := by omega
    rw [e, hz1] at h
    simpa [Value.cells] using h
  have HR0 : Aside (BL (w.alloc (.cells (madeCells #[.slice none 0 0] bss.length) 52)) w.heap.size (.slice (some ⟨w.heap.size, 0, none⟩) 0 bss.length) [] (bss.take 0)) := ⟨⟨World.ownsRow_made w _ bss.length (Nat.le_refl _) (by simp only [maxLen]; omega) (by rw [size_madeCells]; omega), by simp, by simp⟩⟩
  have HB0 := Aside.mk ((Below.refl w.heap.size w).alloc (Nat.le_refl _) (.cells (madeCells #[.slice none 0 0] bss.length) 52))
  have HS := Aside.mk hs
  have HBb := Aside.mk hb
  clear hs hb hi0 hz0 hz1 hz2
  go_enter Try.func30, Try.ntmps30
  go_wp2
  clear hmk
  generalize w.alloc (.cells (madeCells #[.slice none 0 0] bss.length) 52) = w0 at *
  go_loopg [3, 4] bss.length (fun kq v3 v4 wr => ∃ (i : Nat) (vs : List Value), Aside (i + kq = bss.length) ∧ v4 = .int .i64 i ∧ Aside (Below w.heap.size w wr) ∧ Aside (BL wr w.heap.size v3 vs (bss.take i)))
  case atStart => exact ⟨0, [], ⟨by omega⟩, rfl, HB0, HR0⟩
  case round =>
    clear HR0 HB0
    obtain ⟨i, vs, HI, rfl, HB, HR⟩ := hrel
    obtain ⟨A3, m3, c3, rfl⟩ := own_slice HR.out.own
    by_cases hi : i < bss.length
    · obtain ⟨b, o, bv, e, k0, s1⟩ := (HS.out.below HB.out).row i hi
      cases e
      have HM : Aside (bss.length - (i + 1) < gk) := ⟨by have := HI.out; omega⟩
      have HT := Aside.mk (take_snoc hi)
      have hbi : bss[i].length ≤ 1099511627776 := HBb.out _ (List.getElem_mem hi)
      have HLi : Aside ((bss.take i).length ≤ 16777216) := ⟨by rw [List.length_take]; omega⟩
      generalize bss[i] = bs at *
      obtain ⟨A2, c2, rfl, hc2, hm2⟩ := s1.slice
      have hcall := Bytes_any s1 hbi
      clear s1
      go_wp2_with fail
      refine hcall.mono ?_
      clear hcall k0
      rintro e w5 ⟨v5, rfl, ho5, B5⟩
      have HBL := Aside.mk (HR.out.below B5)
      have HB5 := Aside.mk (bthen HB.out HB.out.size B5)
      have HO5 := Aside.mk (ho5.mono HB.out.size)
      have HNe : Aside (∀ q, v5.ownBlock = some q → Value.ownBlock (.slice A3 m3 c3) ≠ some q) := ⟨fun q e e2 => by
        have h1 := (ho5.lt q e).1
        have h2 := (HR.out.own.lt q e2).2
        omega⟩
      obtain ⟨A5, m5, c5, rfl⟩ := own_slice ho5
      have HOwn := Aside.mk HBL.out.own
      have HNext : Aside (∀ (v1 : Value) (w9 : World), w9.ownsRow w.heap.size 52 1 v1 ((bss.take i).length + 1) (vs ++ [.slice A5 m5 c5]) → w5.grownBy w9 (Value.ownBlock (.slice A3 m3 c3)) →
          (v1.ownBlock = Value.ownBlock (.slice A3 m3 c3) ∨ v1.ownBlock = some (w5.heap.size + 1)) → BL w9 w.heap.size v1 (vs ++ [.slice A5 m5 c5]) (bss.take (i + 1)) ∧ Below w.heap.size w w9) := ⟨fun v1 w9 hown hg hat => by
        have h1 := HBL.out.snoc HO5.out HNe.out hown hg (by rcases hat with e | e; exact .inl e; exact .inr ⟨_, e, by omega⟩)
        rw [HT.out]
        exact ⟨h1, HB5.out.grown hg HB5.out.size fun q e => (HBL.out.own.lt q e).1⟩⟩
      clear ho5 B5 HB HR HO5 HNe HBL
      generalize (bss.take i).length = li at *
      go_wp2_with (at_builtin; go_must (refine app_one w.heap.size rfl _ _ 53 52 (.slice none 0 0) 1 24 rfl Try.underlying53 Try.infoBytes rfl (by decide) (by decide) (.slice A3 m3 c3) li vs [.slice A5 m5 c5] rfl rfl rfl (by simp [Value.oneCell']) HOwn.out HB5.out.size (by have := HLi.out; omega) ?_; intro v1 w9 hown hg hat; obtain ⟨hb9, hw9⟩ := HNext.out v1 w9 hown hg hat; have HB9 := Aside.mk hb9; have HW9 := Aside.mk hw9; clear hown hg hat hb9 hw9))
      go_roundg (bss.length - (i + 1))
      case measure => exact HM.out
      case rel => exact ⟨i + 1, _, ⟨by have := HI.out; have := HM.out; omega⟩, by go_num, HW9, HB9⟩
    · have ht : bss.take i = bss := List.take_of_length_le (by omega)
      have HP : Aside (BLPost w bss (.returned (.slice A3 m3 c3)) wr) := ⟨_, vs, rfl, by rw [← ht]; exact HR.out, HB.out⟩
      replace hi : bss.length ≤ i := by omega
      clear ht HR HB
      go_wp2
      go_ret
      exact HP.out
/-- A row of bytes with marks behind it, in a block of its own. -/
def LRow (w : World) (lo : Nat) (u : Value) (bs marks : List UInt8) : Prop :=
  ∃ g cap, u = .slice (some ⟨g, 0, none⟩) bs.length cap ∧ w.ownsRow lo 5 1 (.slice (some ⟨g, 0, none⟩) (bs ++ marks).length cap) (bs ++ marks).length (u8s (bs ++ marks))
theorem LRow.at {w : World} {lo : Nat} {u : Value} {bs marks : List UInt8} (h : LRow w lo u bs marks) : ∃ g, u.ownBlock = some g ∧ lo ≤ g ∧ ∃ c, w.heap[g]? = some (.cells c 5 (0, 0)) := by
  obtain ⟨g, cap, rfl, ho⟩ := h
  obtain ⟨c, hc⟩ := ownsRow_cells ho (q := g) rfl
  exact ⟨g, rfl, (ho.lt g rfl).1, c, hc⟩
theorem LRow.move {w w1 : World} {lo : Nat} {u : Value} {bs marks : List UInt8} (h : LRow w lo u bs marks) (hm : ∀ q, u.ownBlock = some q → w1.heap[q]? = w.heap[q]?) : LRow w1 lo u bs marks := by
  obtain ⟨g, cap, rfl, ho⟩ := h
  exact ⟨g, cap, rfl, ownsRow_move ho fun q e => hm q e⟩
theorem LRow.low {w : World} {lo lo1 : Nat} {u : Value} {bs marks : List UInt8} (h : LRow w lo u bs marks) (hl : lo1 ≤ lo) : LRow w lo1 u bs marks := by
  obtain ⟨g, cap, rfl, ho⟩ := h
  exact ⟨g, cap, rfl, ho.mono hl⟩
theorem Sl.front {α : Type} {K : Kind α} {w : World} {ok : Nat → Prop} {A : Option Addr} {n c : Nat} {xs ys : List α} (h : Sl K w ok (.slice A n c) (xs ++ ys)) : Sl K w ok (.slice A xs.length c) xs := by
  obtain ⟨A', c', e, h1, h2, h3⟩ := h
  cases e
  rw [List.length_append] at h1 h3
  refine ⟨A, c, rfl, by omega, h2, fun h0 => ?_⟩
  obtain ⟨b, o, e, hb, hl, hx⟩ := h3 (by omega)
  exact ⟨b, o, e, hb, hl, fun i x hi => hx i x (by rw [List.getElem?_append_left (List.getElem?_eq_some_iff.1 hi).1]; exact hi)⟩
theorem LRow.sl {w : World} {lo : Nat} {u : Value} {bs marks : List UInt8} (h : LRow w lo u bs marks) : Sl kbyte w (fun q => lo ≤ q ∧ u.ownBlock = some q) u bs := by
  obtain ⟨g, cap, rfl, ho⟩ := h
  exact (row_bytes ho).front
/-- The cells behind the row. -/
theorem LRow.cells {w : World} {lo g n cap : Nat} {bs marks : List UInt8} (h : LRow w lo (.slice (some ⟨g, 0, none⟩) n cap) bs marks) : n = bs.length ∧ (bs ++ marks).length ≤ cap ∧ cap ≤ 9223372036854775807 ∧ ∀ j (hj : j < (bs ++ marks).length), w.cell? ⟨g, j, none⟩ = some (.int .u8 (bs ++ marks)[j].toNat) := by
  obtain ⟨g', cap', e, ho⟩ := h
  cases e
  have hs := row_bytes ho
  refine ⟨rfl, ?_, ?_, fun j hj => ?_⟩
  · obtain ⟨A, c, e, h1, h2, _⟩ := hs
    cases e
    exact h1
  · obtain ⟨A, c, e, h1, h2, _⟩ := hs
    cases e
    exact h2
  · obtain ⟨b, o, e, hc⟩ := hs.byte j hj
    cases e
    simpa using hc
/-- A byte of it written over. -/
theorem LRow.set {w : World} {lo g n cap k : Nat} {bs marks : List UInt8} (h : LRow w lo (.slice (some ⟨g, 0, none⟩) n cap) bs marks) (hk : k < bs.length) (y : UInt8) :
    LRow (w.setCell ⟨g, k, none⟩ (.int .u8 y.toNat)) lo (.slice (some ⟨g, 0, none⟩) n cap) (bs.set k y) marks := by
  obtain ⟨g', cap', e, ho⟩ := h
  cases e
  refine ⟨g, cap, by rw [List.length_set], ?_⟩
  have hs2 : bs.set k y ++ marks = (bs ++ marks).set k y := by rw [List.set_append_left _ _ hk]
  rw [hs2, List.length_set]
  refine ⟨by rw [u8s_length, List.length_set, Nat.mul_one], ?_⟩
  rcases ho.2 with ⟨e, _⟩ | ⟨g', cap', cur, e, h1, h2, h3, h4, h5, h6⟩
  · cases e
  · cases e
    refine .inr ⟨g, cap, cur.setIfInBounds k (.int .u8 y.toNat), rfl, h1, ?_, h3, h4, by simpa using h5, ?_⟩
    · simp [World.setCell, Array.getElem?_modify, h2]
    · rw [Array.toList_setIfInBounds, List.take_set, h6]
      simp [u8s, List.map_set]
end
section
open Go.RowKit Go.Shelf Go
def mk2 : List UInt8 := [161, 178]
def LentPost (w : World) (bs : List UInt8) (e : Ending) (w' : World) : Prop := ∃ v, e = .returned v ∧ LRow w' w.heap.size v bs mk2 ∧ Below w.heap.size w w'
theorem own_pos {w : World} {B s n : Nat} {e : TypeId} {v : Value} {xs : List Value} (h : w.ownsRow B e s v n xs) (h0 : 0 < n) : ∃ g cap, v = .slice (some ⟨g, 0, none⟩) n cap ∧ n ≤ cap ∧ cap ≤ 9223372036854775807 := by
  rcases h.2 with ⟨_, e⟩ | ⟨g, cap, cur, rfl, _, _, h1, h2, _⟩
  · omega
  · exact ⟨g, cap, rfl, h1, by simpa only [maxLen] using h2⟩
set_option maxHeartbeats 4000000 in
set_option maxRecDepth 100000 in
theorem Lent_any {w : World} {ok : Nat → Prop} {v : Value} {bs : List UInt8} (hs : Sl kbyte w ok v bs) (hl : bs.length ≤ 1099511627776) : Calls Try.prog 27 #[v] w (LentPost w bs) := by
  obtain ⟨A, c, rfl, hc, hm⟩ := hs.slice
  have hcall := Bytes_any hs hl
  have HL := Aside.mk hl
  clear hs
  go_enter Try.func27, Try.ntmps27
  go_wp2_with fail
  refine hcall.mono ?_
  clear hcall
  rintro e w1 ⟨v1, rfl, ho, B1⟩
  have HO := Aside.mk ho
  have HB := Aside.mk B1
  obtain ⟨A1, m1, c1, rfl⟩ := own_slice ho
  clear ho B1
  go_wp2_with (at_builtin; go_must (refine app_many w.heap.size 2 rfl _ _ 52 5 (.int .u8 0) 1 1 rfl Try.underlying52 Try.infoByte rfl (by decide) (by decide) (.slice A1 m1 c1) bs.length _ [.int .u8 161, .int .u8 178] rfl rfl rfl (by simp [Value.oneCell']) HO.out HB.out.size (by have := HL.out; omega) ?_; intro v2 w2 hown hg hat; obtain ⟨g, cap, rfl, hc1, hc2⟩ := own_pos hown (by omega); have HP : Aside (LentPost w bs (.returned (.slice (some ⟨g, 0, none⟩) bs.length cap)) w2) := ⟨_, rfl, ⟨g, cap, rfl, by rw [u8s_append, List.length_append]; exact hown⟩, HB.out.grown hg HB.out.size fun q e => (HO.out.lt q e).1⟩; clear hown hg hat))
  go_ret
  exact HP.out
/-- A list of rows with marks, all of it the call's own, each row in a block of its own. -/
structure LL (w : World) (lo : Nat) (v : Value) (vs : List Value) (ps : List (List UInt8 × List UInt8)) : Prop where
  own : w.ownsRow lo 52 1 v ps.length vs
  row : ∀ (i : Nat) (u : Value) (p : List UInt8 × List UInt8), vs[i]? = some u → ps[i]? = some p → LRow w lo u p.1 p.2
  ne : ∀ (i : Nat) (u : Value) (q : Nat), vs[i]? = some u → u.ownBlock = some q → v.ownBlock ≠ some q
  apart : ∀ (i j : Nat) (u u' : Value) (q : Nat), vs[i]? = some u → vs[j]? = some u' → u.ownBlock = some q → u'.ownBlock = some q → i = j
theorem LL.len {w : World} {lo : Nat} {v : Value} {vs : List Value} {ps : List (List UInt8 × List UInt8)} (h : LL w lo v vs ps) : vs.length = ps.length := by
  have := h.own.1
  omega
theorem LL.nil (w : World) (lo : Nat) : LL w lo (.slice none 0 0) [] [] := ⟨World.ownsRow_nil _ _ _ _, by simp, by simp, by simp⟩
theorem LL.move {w w1 : World} {lo : Nat} {v : Value} {vs : List Value} {ps : List (List UInt8 × List UInt8)} (h : LL w lo v vs ps) (hm : ∀ q, lo ≤ q → q < w.heap.size → w1.heap[q]? = w.heap[q]?) : LL w1 lo v vs ps :=
  ⟨ownsRow_move h.own fun q e => hm q (h.own.lt q e).1 (h.own.lt q e).2, fun i u p hu hp => (h.row i u p hu hp).move fun q e => by
    obtain ⟨g, e2, h1, c, hc⟩ := (h.row i u p hu hp).at
    rw [e] at e2
    cases e2
    exact hm q h1 (blk_lt hc), h.ne, h.apart⟩
theorem LL.below {w w1 : World} {lo : Nat} {v : Value} {vs : List Value} {ps : List (List UInt8 × List UInt8)} (h : LL w lo v vs ps) (hb : Below w.heap.size w w1) : LL w1 lo v vs ps := h.move fun q _ hq => hb.block q hq
/-- One row more. -/
theorem LL.snoc {w w1 : World} {lo : Nat} {v v1 u : Value} {vs : List Value} {ps : List (List UInt8 × List UInt8)} {p : List UInt8 × List UInt8} (h : LL w lo v vs ps) (hu : LRow w lo u p.1 p.2)
    (hnew : ∀ q, u.ownBlock = some q → v.ownBlock ≠ some q ∧ ∀ (i : Nat) (u' : Value), vs[i]? = some u' → u'.ownBlock ≠ some q)
    (ho : w1.ownsRow lo 52 1 v1 (ps.length + 1) (vs ++ [u])) (hg : w.grownBy w1 v.ownBlock) (hm : Moved w v v1) : LL w1 lo v1 (vs ++ [u]) (ps ++ [p]) := by
  have hlen := h.len
  have hblk : ∀ (x : Value) (r : List UInt8 × List UInt8), LRow w lo x r.1 r.2 → (∀ q, x.ownBlock = some q → v.ownBlock ≠ some q) → LRow w1 lo x r.1 r.2 ∧ ∀ q, x.ownBlock = some q → v1.ownBlock ≠ some q := fun x r hx hn => by
    obtain ⟨g, e, h1, c, hc⟩ := hx.at
    refine ⟨hx.move fun q e2 => ?_, fun q e2 => ?_⟩
    · rw [e] at e2; cases e2
      exact hg.block g (blk_lt hc) fun e3 => hn g e e3.symm
    · rw [e] at e2; cases e2
      rcases hm with hm | ⟨k, hm, hk⟩
      · rw [hm]; exact hn g e
      · rw [hm]; intro e3; have := blk_lt hc; have := Option.some.inj e3; omega
  have hcase : ∀ (i : Nat) (x : Value), (vs ++ [u])[i]? = some x → (i < vs.length ∧ vs[i]? = some x) ∨ (i = vs.length ∧ x = u) := fun i x hx => by
    rcases Nat.lt_or_ge i vs.length with hi | hi
    · rw [List.getElem?_append_left hi] at hx
      exact .inl ⟨hi, hx⟩
    · have hi' := (List.getElem?_eq_some_iff.1 hx).1
      rw [List.length_append, List.length_singleton] at hi'
      have hie : i = vs.length := by omega
      subst hie
      rw [List.getElem?_append_right (Nat.le_refl _)] at hx
      simp at hx
      exact .inr ⟨rfl, hx.symm⟩
  refine ⟨by rw [List.length_append]; exact ho, fun i x r hx hr => ?_, fun i x q hx e => ?_, fun i j x x' q hx hx' e e' => ?_⟩
  · rcases hcase i x hx with ⟨hi, hx⟩ | ⟨rfl, rfl⟩
    · rw [List.getElem?_append_left (by omega)] at hr
      exact (hblk x r (h.row i x r hx hr) fun q e => h.ne i x q hx e).1
    · rw [List.getElem?_append_right (by omega), hlen] at hr
      simp at hr
      subst hr
      exact (hblk x p hu fun q e => (hnew q e).1).1
  · rcases hcase i x hx with ⟨hi, hx⟩ | ⟨rfl, rfl⟩
    · have hp : ps[i]? = some ps[i] := List.getElem?_eq_getElem (by omega)
      exact (hblk x _ (h.row i x _ hx hp) fun q e => h.ne i x q hx e).2 q e
    · exact (hblk x p hu fun q e => (hnew q e).1).2 q e
  · rcases hcase i x hx with ⟨hi, h1⟩ | ⟨h0, h1⟩
    · rcases hcase j x' hx' with ⟨hj, h2⟩ | ⟨h0', h2⟩
      · exact h.apart i j x x' q h1 h2 e e'
      · subst h2
        exact absurd e ((hnew q e').2 i x h1)
    · rcases hcase j x' hx' with ⟨hj, h2⟩ | ⟨h0', h2⟩
      · subst h1
        exact absurd e' ((hnew q e).2 j x' h2)
      · omega
theorem LL.sl {w : World} {lo : Nat} {v : Value} {vs : List Value} {ps : List (List UInt8 × List UInt8)} (h : LL w lo v vs ps) : Sl (kslice kbyte) w (lo ≤ ·) v (ps.map (·.1)) := by
  have hlen := h.len
  refine Own.sl (e := 52) ⟨vs, by rw [List.length_map]; exact h.own, fun i bs hb => ?_⟩
  obtain ⟨hl, he⟩ := List.getElem?_eq_some_iff.1 hb
  rw [List.length_map] at hl
  rw [List.getElem_map] at he
  have e : vs.drop (i * (kslice kbyte).sz) = vs.drop i := by show vs.drop (i * 1) = _; rw [Nat.mul_one]
  rw [e]
  have hi : i < vs.length := by omega
  have hv : vs[i]? = some vs[i] := List.getElem?_eq_getElem hi
  refine ⟨vs[i], ?_, ?_⟩
  · show (vs.drop i).take 1 = _
    rw [List.drop_eq_getElem_cons hi]
    rfl
  · have hr := h.row i vs[i] _ hv (List.getElem?_eq_getElem (by omega))
    rw [he] at hr
    exact hr.sl.mono fun q hq => ⟨hq.1, fun e => h.ne i vs[i] q hv hq.2 e.symm⟩
def zB : List UInt8 := [195, 212]
def lentPs (bss : List (List UInt8)) : List (List UInt8 × List UInt8) := (bss.map fun b => (b, mk2)) ++ [(zB, [])]
def LentL (w : World) (lo : Nat) (v : Value) (bss : List (List UInt8)) : Prop :=
  ∃ g cap vs, v = .slice (some ⟨g, 0, none⟩) bss.length cap ∧ LL w lo (.slice (some ⟨g, 0, none⟩) (bss.length + 1) cap) vs (lentPs bss)
def LentLPost (w : World) (bss : List (List UInt8)) (e : Ending) (w' : World) : Prop := ∃ v, e = .returned v ∧ LentL w' w.heap.size v bss ∧ Below w.heap.size w w'
theorem LL.blk {w : World} {lo i q : Nat} {v u : Value} {vs : List Value} {ps : List (List UInt8 × List UInt8)} (h : LL w lo v vs ps) (hu : vs[i]? = some u) (e : u.ownBlock = some q) : lo ≤ q ∧ q < w.heap.size := by
  have hi := (List.getElem?_eq_some_iff.1 hu).1
  have hlen := h.len
  obtain ⟨g, e2, h1, c, hc⟩ := (h.row i u _ hu (List.getElem?_eq_getElem (by omega))).at
  rw [e] at e2
  cases e2
  exact ⟨h1, blk_lt hc⟩
set_option maxHeartbeats 8000000 in
set_option maxRecDepth 100000 in
theorem LentLists_any {w : World} {ok : Nat → Prop} {v : Value} {bss : List (List UInt8)} (hs : Sl (kslice kbyte) w ok v bss) (hl : bss.length ≤ 16777216) (hb : ∀ bs ∈ bss, bs.length ≤ 1099511627776) : Calls Try.prog 28 #[v] w (LentLPost w bss) := by
  obtain ⟨A, c, rfl, hc, hm⟩ := hs.slice
  have HR0 : Aside (LL w w.heap.size (.slice none 0 0) [] ((bss.take 0).map fun b => (b, mk2))) := ⟨LL.nil _ _⟩
  have HB0 := Aside.mk (Below.refl w.heap.size w)
  have HS := Aside.mk hs
  have HBb := Aside.mk hb
  clear hs hb
  go_enter Try.func28, Try.ntmps28
  go_wp2
  go_loopg [3, 4] bss.length (fun kq v3 v4 wr => ∃ (i : Nat) (vs : List Value), Aside (i + kq = bss.length) ∧ v4 = .int .i64 i ∧ Aside (Below w.heap.size w wr) ∧ Aside (LL wr w.heap.size v3 vs ((bss.take i).map fun b => (b, mk2))))
  case atStart => exact ⟨0, [], ⟨by omega⟩, rfl, HB0, HR0⟩
  case round =>
    clear HR0 HB0
    obtain ⟨i, vs, HI, rfl, HB, HR⟩ := hrel
    obtain ⟨A3, m3, c3, rfl⟩ := own_slice HR.out.own
    have HLi : Aside (((bss.take i).map fun b => (b, mk2)).length ≤ 16777216) := ⟨by rw [List.length_map, List.length_take]; omega⟩
    by_cases hi : i < bss.length
    · obtain ⟨b, o, bv, e, k0, s1⟩ := (HS.out.below HB.out).row i hi
      cases e
      have HM : Aside (bss.length - (i + 1) < gk) := ⟨by have := HI.out; omega⟩
      have HT := Aside.mk (take_snoc hi)
      have hbi : bss[i].length ≤ 1099511627776 := HBb.out _ (List.getElem_mem hi)
      generalize bss[i] = bs at *
      obtain ⟨A2, c2, rfl, hc2, hm2⟩ := s1.slice
      have hcall := Lent_any s1 hbi
      clear s1
      go_wp2_with fail
      refine hcall.mono ?_
      clear hcall k0
      rintro e w5 ⟨v5, rfl, ho5, B5⟩
      have HLL := Aside.mk (HR.out.below B5)
      have HB5 := Aside.mk (bthen HB.out HB.out.size B5)
      have HO5 := Aside.mk (ho5.low HB.out.size)
      have HNe : Aside (∀ q, v5.ownBlock = some q → Value.ownBlock (.slice A3 m3 c3) ≠ some q ∧ ∀ (j : Nat) (u' : Value), vs[j]? = some u' → u'.ownBlock ≠ some q) := ⟨fun q e => by
        obtain ⟨g, e2, h1, _⟩ := ho5.at
        rw [e] at e2
        cases e2
        exact ⟨fun e2 => by have h2 := (HR.out.own.lt q e2).2; omega, fun j u' hu e2 => by have h2 := (HR.out.blk hu e2).2; omega⟩⟩
      obtain ⟨g5, c5, rfl⟩ : ∃ g c, v5 = .slice (some ⟨g, 0, none⟩) bs.length c := by obtain ⟨g, c, e, _⟩ := ho5; exact ⟨g, c, e⟩
      have HOwn := Aside.mk HLL.out.own
      have HNext : Aside (∀ (v1 : Value) (w9 : World), w9.ownsRow w.heap.size 52 1 v1 (((bss.take i).map fun b => (b, mk2)).length + 1) (vs ++ [.slice (some ⟨g5, 0, none⟩) bs.length c5]) → w5.grownBy w9 (Value.ownBlock (.slice A3 m3 c3)) →
          (v1.ownBlock = Value.ownBlock (.slice A3 m3 c3) ∨ v1.ownBlock = some (w5.heap.size + 1)) → LL w9 w.heap.size v1 (vs ++ [.slice (some ⟨g5, 0, none⟩) bs.length c5]) ((bss.take (i + 1)).map fun b => (b, mk2)) ∧ Below w.heap.size w w9) := ⟨fun v1 w9 hown hg hat => by
        have h1 := HLL.out.snoc (p := (bs, mk2)) HO5.out HNe.out hown hg (by rcases hat with e | e; exact .inl e; exact .inr ⟨_, e, by omega⟩)
        rw [HT.out, List.map_append]
        exact ⟨h1, HB5.out.grown hg HB5.out.size fun q e => (HLL.out.own.lt q e).1⟩⟩
      clear ho5 B5 HB HR HO5 HNe HLL
      generalize ((bss.take i).map fun b => (b, mk2)).length = li at *
      go_wp2_with (at_builtin; go_must (refine app_one w.heap.size rfl _ _ 53 52 (.slice none 0 0) 1 24 rfl Try.underlying53 Try.infoBytes rfl (by decide) (by decide) (.slice A3 m3 c3) li vs [.slice (some ⟨g5, 0, none⟩) bs.length c5] rfl rfl rfl (by simp [Value.oneCell']) HOwn.out HB5.out.size (by have := HLi.out; omega) ?_; intro v1 w9 hown hg hat; obtain ⟨hb9, hw9⟩ := HNext.out v1 w9 hown hg hat; have HB9 := Aside.mk hb9; have HW9 := Aside.mk hw9; clear hown hg hat hb9 hw9))
      go_roundg (bss.length - (i + 1))
      case measure => exact HM.out
      case rel => exact ⟨i + 1, _, ⟨by have := HI.out; have := HM.out; omega⟩, by go_num, HW9, HB9⟩
    · have hie : i = bss.length := by have := HI.out; omega
      subst hie
      rw [List.take_length] at HR HLi
      have hsz : w.heap.size ≤ wr.heap.size := HB.out.size
      have hla := (Below.refl wr.heap.size wr).alloc (Nat.le_refl _) (.cells #[.int .u8 195, .int .u8 212] 5)
      have HLL := Aside.mk (HR.out.below hla)
      have HBA := Aside.mk (bthen HB.out hsz hla)
      have hz : LRow (wr.alloc (.cells #[.int .u8 195, .int .u8 212] 5)) w.heap.size (.slice (some ⟨wr.heap.size, 0, none⟩) 2 2) zB [] := ⟨wr.heap.size, 2, rfl, World.ownsRow_lit wr #[.int .u8 195, .int .u8 212] 2 hsz (by decide) rfl⟩
      have HNe : Aside (∀ q, Value.ownBlock (.slice (some ⟨wr.heap.size, 0, none⟩) 2 2) = some q → Value.ownBlock (.slice A3 m3 c3) ≠ some q ∧ ∀ (j : Nat) (u' : Value), vs[j]? = some u' → u'.ownBlock ≠ some q) := ⟨fun q e => by
        cases e
        exact ⟨fun e2 => by have h2 := (HR.out.own.lt _ e2).2; simp at h2, fun j u' hu e2 => by have h2 := (HR.out.blk hu e2).2; simp at h2⟩⟩
      have HZ := Aside.mk hz
      have HOwn := Aside.mk HLL.out.own
      have HNext : Aside (∀ (v1 : Value) (w9 : World), w9.ownsRow w.heap.size 52 1 v1 ((bss.map fun b => (b, mk2)).length + 1) (vs ++ [.slice (some ⟨wr.heap.size, 0, none⟩) 2 2]) → (wr.alloc (.cells #[.int .u8 195, .int .u8 212] 5)).grownBy w9 (Value.ownBlock (.slice A3 m3 c3)) →
          (v1.ownBlock = Value.ownBlock (.slice A3 m3 c3) ∨ v1.ownBlock = some ((wr.alloc (.cells #[.int .u8 195, .int .u8 212] 5)).heap.size + 1)) → ∃ g cap, v1 = .slice (some ⟨g, 0, none⟩) (bss.length + 1) cap ∧ bss.length + 1 ≤ cap ∧ cap ≤ 9223372036854775807 ∧ LentLPost w bss (.returned (.slice (some ⟨g, 0, none⟩) bss.length cap)) w9) := ⟨fun v1 w9 hown hg hat => by
        have h1 := HLL.out.snoc (p := (zB, [])) HZ.out HNe.out hown hg (by rcases hat with e | e; exact .inl e; exact .inr ⟨_, e, by omega⟩)
        rw [List.length_map] at hown
        obtain ⟨g, cap, rfl, q1, q2⟩ := own_pos hown (by omega)
        exact ⟨g, cap, rfl, q1, q2, _, rfl, ⟨g, cap, _, rfl, h1⟩, HBA.out.grown hg HBA.out.size fun q e => (HLL.out.own.lt q e).1⟩⟩
      have HSz := Aside.mk HBA.out.size
      replace hi : bss.length ≤ bss.length := Nat.le_refl _
      clear hz hla HZ HNe HLL HR HB HI hsz
      go_wp2_with (at_builtin; go_must (refine app_one w.heap.size rfl _ _ 53 52 (.slice none 0 0) 1 24 rfl Try.underlying53 Try.infoBytes rfl (by decide) (by decide) (.slice A3 m3 c3) (bss.map fun b => (b, mk2)).length vs [.slice (some ⟨wr.heap.size, 0, none⟩) 2 2] rfl (by simp [go_sem]) rfl (by simp [Value.oneCell']) HOwn.out HSz.out (by have := HLi.out; omega) ?_; intro v1 w9 hown hg hat; obtain ⟨g, cap, rfl, q1, q2, hp⟩ := HNext.out v1 w9 hown hg hat; have HP := Aside.mk hp; clear hown hg hat hp))
      go_ret
      exact HP.out
end
section
open Go.RowKit Go.Shelf Go
set_option maxHeartbeats 4000000 in
set_option maxRecDepth 100000 in
theorem Stays_any {w : World} {lo : Nat} {ok : Nat → Prop} {v v2 : Value} {bs : List UInt8} (hm : LRow w lo v bs mk2) (hs : Sl kbyte w ok v2 bs) (hl : bs.length ≤ 1099511627776) :
    Calls Try.prog 33 #[v, v2] w fun e w' => e = .returned (.bool true) ∧ w' = w := by
  obtain ⟨A, c, rfl, hc, hmx⟩ := hs.slice
  have hcall := SameBytes_any hm.sl hs
  rw [eqB_yes rfl] at hcall
  obtain ⟨g, cap, rfl, ho⟩ := id hm
  obtain ⟨_, hcap, hcm, hcell⟩ := hm.cells
  have k1 : w.cell? ⟨g, bs.length, none⟩ = some (.int .u8 161) := by
    rw [hcell bs.length (by simp [mk2])]
    simp [mk2]
  have k2 : w.cell? ⟨g, bs.length + 1, none⟩ = some (.int .u8 178) := by
    rw [hcell (bs.length + 1) (by simp [mk2])]
    simp [mk2]
  have hcap2 : bs.length + 2 ≤ cap := by simpa [mk2] using hcap
  obtain ⟨hl1, hl2, hl3, _⟩ := natEq (rfl : bs.length = bs.length)
  clear hm hs ho hcell hcap
  go_enter Try.func33, Try.ntmps33
  go_wp2_with fail
  refine hcall.mono ?_
  clear hcall
  rintro e w1 ⟨rfl, rfl⟩
  go_wp2
  go_ret
  exact ⟨rfl, rfl⟩
theorem lentPs_at {bss : List (List UInt8)} {i : Nat} (hi : i < bss.length) : (lentPs bss)[i]? = some (bss[i], mk2) := by
  unfold lentPs
  rw [List.getElem?_append_left (by simpa using hi)]
  simp [hi]
theorem lentPs_end {bss : List (List UInt8)} : (lentPs bss)[bss.length]? = some (zB, []) := by
  unfold lentPs
  rw [List.getElem?_append_right (by simp)]
  simp
theorem LL.cell {w : World} {lo g n cap i : Nat} {u : Value} {vs : List Value} {ps : List (List UInt8 × List UInt8)} (h : LL w lo (.slice (some ⟨g, 0, none⟩) n cap) vs ps) (hu : vs[i]? = some u) : w.cell? ⟨g, i, none⟩ = some u := by
  have := h.own.cells (g := g) rfl i u hu
  rw [addr_add] at this
  simpa using this
set_option maxHeartbeats 4000000 in
set_option maxRecDepth 100000 in
theorem StayLists_any {w : World} {lo : Nat} {ok : Nat → Prop} {v v2 : Value} {bss : List (List UInt8)} (hm : LentL w lo v bss) (hs : Sl (kslice kbyte) w ok v2 bss) (hl : bss.length ≤ 16777216) (hb : ∀ bs ∈ bss, bs.length ≤ 1099511627776) :
    Calls Try.prog 34 #[v, v2] w fun e w' => e = .returned (.bool true) ∧ Below w.heap.size w w' := by
  obtain ⟨A, c, rfl, hc, hmx⟩ := hs.slice
  obtain ⟨g, cap, vs, rfl, hL⟩ := hm
  have hlen := hL.len
  have hpl : (lentPs bss).length = bss.length + 1 := by simp [lentPs]
  have hcap : bss.length + 1 ≤ cap ∧ cap ≤ 9223372036854775807 := by
    obtain ⟨g', cap', e, h1, h2⟩ := own_pos hL.own (by omega)
    rw [hpl] at e h1
    cases e
    exact ⟨h1, h2⟩
  obtain ⟨hcap1, hcap2⟩ := hcap
  have hz : vs[bss.length]? = some (vs[bss.length]'(by omega)) := List.getElem?_eq_getElem (by omega)
  have hzr := hL.row _ _ _ hz lentPs_end
  have kz := hL.cell hz
  generalize vs[bss.length]'(by omega) = z at *
  obtain ⟨gz, cz, rfl, _⟩ := id hzr
  have HZ := Aside.mk hzr.sl
  have HRow : Aside (∀ i (hi : i < bss.length), ∃ u, w.cell? ⟨g, i, none⟩ = some u ∧ LRow w lo u bss[i] mk2) := ⟨fun i hi => by
    have hu : vs[i]? = some (vs[i]'(by omega)) := List.getElem?_eq_getElem (by omega)
    exact ⟨_, hL.cell hu, hL.row _ _ _ hu (lentPs_at hi)⟩⟩
  have HS := Aside.mk hs
  have HBb := Aside.mk hb
  obtain ⟨hl1, hl2, hl3, _⟩ := natEq (rfl : bss.length = bss.length)
  clear hL hs hz hzr hlen hpl hb
  go_enter Try.func34, Try.ntmps34
  go_wp2
  clear kz
  go_loopg [6, 7] bss.length (fun kq v6 v7 wr => ∃ (i : Nat), Aside (i + kq = bss.length) ∧ v6 = .int .i64 i ∧ Same w wr)
  case atStart => exact ⟨0, ⟨by omega⟩, rfl, Same.refl _⟩
  case round =>
    obtain ⟨i, HI, rfl, ⟨⟨m, rfl⟩⟩⟩ := hrel
    by_cases hi : i < bss.length
    · obtain ⟨u, k0, hu⟩ := HRow.out i hi
      obtain ⟨b2, o2, q2, e, k2, s2⟩ := HS.out.row i hi
      cases e
      have hbi : bss[i].length ≤ 1099511627776 := HBb.out _ (List.getElem_mem hi)
      have HCon : Aside (∀ n, Calls Try.prog 33 #[u, q2] (w.drewN n) fun e w' => e = .returned (.bool true) ∧ w' = w.drewN n) := ⟨fun n => Stays_any (hu.move fun _ _ => rfl) (s2.move fun _ _ => rfl) hbi⟩
      have HM : Aside (bss.length - (i + 1) < gk) := ⟨by have := HI.out; omega⟩
      obtain ⟨gu, cu, rfl, _⟩ := id hu
      obtain ⟨A4, c4, rfl, _⟩ := s2.slice
      clear s2 hu hbi
      go_wp2
      go_quiet (first | (go_at_call 33; go_must (refine (HCon.out _).mono ?_; rintro e w9 ⟨h1, h2⟩; exact ⟨h1, _, h2⟩)))
      go_wp2
      go_roundg (bss.length - (i + 1))
      case measure => exact HM.out
      case rel => exact ⟨i + 1, ⟨by have := HI.out; have := HM.out; omega⟩, by go_num, by first | exact Same.refl _ | exact ⟨⟨_, rfl⟩⟩ | exact ((Same.refl _).step _).step _⟩
    · replace hi : bss.length ≤ i := by omega
      have hla := (Below.refl (w.drewN m).heap.size (w.drewN m)).alloc (Nat.le_refl _) (.cells #[.int .u8 195, .int .u8 212] 5)
      have hz2 : LRow ((w.drewN m).alloc (.cells #[.int .u8 195, .int .u8 212] 5)) 0 (.slice (some ⟨(w.drewN m).heap.size, 0, none⟩) 2 2) zB [] := ⟨(w.drewN m).heap.size, 2, rfl, World.ownsRow_lit (w.drewN m) #[.int .u8 195, .int .u8 212] 2 (Nat.zero_le _) (by decide) rfl⟩
      have hcall := SameBytes_any ((HZ.out.move (w' := w.drewN m) fun _ _ => rfl).below hla) hz2.sl
      rw [eqB_yes rfl] at hcall
      have HBA : Aside (Below w.heap.size w ((w.drewN m).alloc (.cells #[.int .u8 195, .int .u8 212] 5))) := ⟨(bdrew (Below.refl _ _) m).trans hla⟩
      clear hla hz2 HRow HS
      go_wp2_with fail
      refine hcall.mono ?_
      clear hcall
      rintro e w1 ⟨rfl, rfl⟩
      go_wp2
      go_ret
      exact ⟨rfl, HBA.out⟩
end
end Go.Proofs.Ytikgdhmnnnicmaa
