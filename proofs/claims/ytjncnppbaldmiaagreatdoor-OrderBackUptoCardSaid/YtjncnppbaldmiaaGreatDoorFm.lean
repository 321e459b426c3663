/- Numbers of four bytes: the program's and the document's; the reference's copy of bytes, and its varint.Put. No condition. -/
import Derived.Test.YtjncnppbaldmiaaGreatDoorOb
import Derived.Test.YtjncnppbaldmiaaGreatDoorVz
import Derived.Laws.Bits128
namespace Go.Proofs.YtjncnppbaldmiaaGreatDoor
open Go.RowKit
def be4 (x : Int) : List UInt8 := [UInt8.ofNat (x / 16777216).toNat, UInt8.ofNat (x / 65536).toNat, UInt8.ofNat (x / 256).toNat, UInt8.ofNat x.toNat]
def fours (xs : List Int) : List UInt8 := xs.flatMap be4
theorem be4_length (x : Int) : (be4 x).length = 4 := rfl
theorem fours_length (xs : List Int) : (fours xs).length = 4 * xs.length := by
  induction xs with
  | nil => rfl
  | cons x xs ih => simp only [fours, List.flatMap_cons, List.length_append, be4_length, List.length_cons] at *; omega
theorem fours3 (a b c : Int) : fours [a, b, c] = be4 a ++ (be4 b ++ (be4 c ++ [])) := by simp [fours]
theorem fours4 (a b c d : Int) : fours [a, b, c, d] = be4 a ++ (be4 b ++ (be4 c ++ (be4 d ++ []))) := by simp [fours]
theorem u8s_be4 {x : Int} (h0 : 0 ≤ x) (h1 : x ≤ 4294967295) : u8s (be4 x) = [.int .u8 (x / 16777216), .int .u8 (x / 65536 % 256), .int .u8 (x / 256 % 256), .int .u8 (x % 256)] := by
  obtain ⟨n, rfl⟩ : ∃ n : Nat, x = (n : Int) := ⟨x.toNat, by omega⟩
  simp only [be4, u8s, List.map_cons, List.map_nil, UInt8.toNat_ofNat']
  have a1 : (((n : Int) / 16777216).toNat % 2 ^ 8 : Nat) = ((n : Int) / 16777216).toNat := by omega
  have a2 : ((((n : Int) / 65536).toNat % 2 ^ 8 : Nat) : Int) = (n : Int) / 65536 % 256 := by omega
  have a3 : ((((n : Int) / 256).toNat % 2 ^ 8 : Nat) : Int) = (n : Int) / 256 % 256 := by omega
  have a4 : ((((n : Int)).toNat % 2 ^ 8 : Nat) : Int) = (n : Int) % 256 := by omega
  have a5 : ((((n : Int) / 16777216).toNat : Nat) : Int) = (n : Int) / 16777216 := by omega
  rw [a1, a2, a3, a4, a5]
theorem fours_take {ls : List Int} {i : Nat} (hi : i < ls.length) : fours (ls.take (i + 1)) = fours (ls.take i) ++ be4 ls[i] := by
  unfold fours
  rw [take_snoc hi, List.flatMap_append]
  simp only [List.flatMap_cons, List.flatMap_nil, List.append_nil]

theorem app_manyM {P : Program} {ops : Array Oper} {rest : List Oper} {o : Oper} {a : Act} {Q : Exit → Act → World → Prop} {W : World} (B k : Nat) (hgd : o.guard = none) (s x : Operand) (t e : TypeId) (z : Value) (size bytes : Nat)
    (ho : o.op = .call { callee := .builtin .append, args := #[s, x], argTypes := #[t, t] })
    (ht : P.underlying t = some (.slice e)) (hinfo : (P.info? e).map (fun i => (i.zero, i.size, i.bytes)) = some (some z, size, bytes)) (hz : z.cells.size = size) (hsz : 0 < size) (hb0 : 0 < bytes)
    (v : Value) (n : Nat) (xs ys : List Value) (hs : a.eval s = v) (hx : a.eval x = .slice (some ⟨W.heap.size, 0, none⟩) k k) (hy : ys.length = k * size) (h1 : ∀ u ∈ ys, u.oneCell' = true)
    (HO : W.ownsRow B e size v n xs) (hbase : B ≤ W.heap.size) (hl : (n + k) * bytes ≤ 140737488355328)
    (h : ∀ v1 w1, w1.ownsRow B e size v1 (n + k) (xs ++ ys) → W.grownBy w1 v.ownBlock → (v1.ownBlock = v.ownBlock ∨ v1.ownBlock = some (W.heap.size + 1)) → wpList P ops Q rest (a.put o.dst v1) w1) :
    wpList P ops Q (o :: rest) a (W.alloc (.cells ys.toArray e)) := by
  obtain ⟨i0, hi, hz0, hz1, hz2⟩ := info_parts hinfo
  have hlen : n + k ≤ 140737488355328 := Nat.le_trans (Nat.le_mul_of_pos_right _ hb0) hl
  refine wpList_append_own_at (W.alloc (.cells ys.toArray e)) hgd s x t ho B e i0 z size bytes ht hi hz0 hz1 hz2 hz hsz v n xs hs (HO.alloc _) ⟨W.heap.size, 0, none⟩ k k ys hx (by omega)
    (World.news_of_block (cs := ys.toArray) (t := e) (fr := (0, 0)) (heap_alloc_new W _)) h1 (by simp only [maxLen]; omega) hl (by simp; omega) ?_
  intro v1 w1 hown hg _ hat
  exact h v1 w1 hown (World.grownBy.trans (World.grownBy_alloc W _ _) hg) (by simpa using hat)
set_option maxHeartbeats 4000000 in
set_option maxRecDepth 100000 in
theorem mfour_any {w : World} {ok : Nat → Prop} {lv : Value} {ls : List Int} (hs : Sl kint w ok lv ls) (hr : ∀ x ∈ ls, 0 ≤ x ∧ x ≤ 4294967295) (hl : ls.length ≤ 1000) :
    Calls Tryz.prog 31 #[lv] w (GrownPost w (fours ls)) := by
  obtain ⟨A, c, rfl, hc, hm⟩ := hs.slice
  obtain ⟨i0, hi0, hz0, hz1, hz2⟩ := info_parts Tryz.infoByte
  have hmk : (Instr.makeSlice 25 (.int .i64 0) (.int .i64 (4 * (ls.length : Int)))).run Tryz.prog w = .ok (.slice (some ⟨w.heap.size, 0, none⟩) 0 (4 * ls.length)) (w.alloc (.cells (madeCells #[.int .u8 0] (4 * ls.length)) 5)) := by
    have h := run_make (P := Tryz.prog) w 25 5 i0 _ Tryz.underlying25 hi0 hz0 .i64 .i64 0 (4 * (ls.length : Int)) (by omega) (by omega) (by rw [hz2]; omega) (by omega)
    have e : (4 * (ls.length : Int)).toNat = 4 * ls.length := by omega
    rw [e, hz1] at h
    simpa [Value.cells] using h
  have HR0 : Aside ((w.alloc (.cells (madeCells #[.int .u8 0] (4 * ls.length)) 5)).ownsRow w.heap.size 5 1 (.slice (some ⟨w.heap.size, 0, none⟩) 0 (4 * ls.length)) (fours (ls.take 0)).length (u8s (fours (ls.take 0)))) := ⟨World.ownsRow_made w _ (4 * ls.length) (Nat.le_refl _) (by simp only [maxLen]; omega) (by rw [size_madeCells]; omega)⟩
  have HB0 := Aside.mk ((Below.refl w.heap.size w).alloc (Nat.le_refl _) (.cells (madeCells #[.int .u8 0] (4 * ls.length)) 5))
  have HS := Aside.mk hs
  have HR := Aside.mk hr
  clear hs hr hi0 hz0 hz1 hz2
  go_enter Tryz.func31, Tryz.ntmps31
  go_wp2
  clear hmk
  generalize w.alloc (.cells (madeCells #[.int .u8 0] (4 * ls.length)) 5) = w0 at *
  go_loopg [3, 12] ls.length (fun kq v3 v12 wr => ∃ (i : Nat), Aside (i + kq = ls.length) ∧ v12 = .int .i64 i ∧ Aside (Below w.heap.size w wr) ∧ Aside (wr.ownsRow w.heap.size 5 1 v3 (fours (ls.take i)).length (u8s (fours (ls.take i)))))
  case atStart => exact ⟨0, ⟨by omega⟩, rfl, HB0, HR0⟩
  case round =>
    clear HR0 HB0
    obtain ⟨i, HI, rfl, HB, HO⟩ := hrel
    by_cases hi : i < ls.length
    · obtain ⟨b, o, e, k0⟩ := (HS.out.below HB.out).int i hi
      cases e
      have hx := HR.out ls[i] (List.getElem_mem hi)
      have HT := Aside.mk (fours_take hi)
      have hlen : (fours (ls.take i)).length + 4 ≤ 1099511627776 := by rw [fours_length, List.length_take]; omega
      have HM : Aside (ls.length - (i + 1) < gk ∧ i + 1 + (ls.length - (i + 1)) = ls.length) := ⟨by have := HI.out; omega⟩
      generalize ls[i] = x at *
      obtain ⟨hx0, hx1⟩ := hx
      have HX := Aside.mk (u8s_be4 hx0 hx1)
      have HLen := Aside.mk hlen
      clear hlen
      go_wp2_with (at_builtin; go_must (refine app_manyM w.heap.size 4 rfl _ _ 25 5 (.int .u8 0) 1 1 rfl Tryz.underlying25 Tryz.infoByte rfl (by decide) (by decide) u3 (fours (ls.take i)).length _ [.int .u8 (x / 16777216), .int .u8 (x / 65536 % 256), .int .u8 (x / 256 % 256), .int .u8 (x % 256)] rfl rfl rfl (by simp [Value.oneCell']) HO.out HB.out.size (by have := HLen.out; omega) ?_; intro v1 w6 hown hg6 hat; have HB6 := Aside.mk (HB.out.grown hg6 HB.out.size fun q e => (HO.out.lt q e).1); have HO6 := Aside.mk hown; clear hown hg6 hat))
      go_roundg (ls.length - (i + 1))
      case measure => exact HM.out.1
      case rel => exact ⟨i + 1, ⟨HM.out.2⟩, by go_num, HB6, ⟨by rw [HT.out, u8s_append, HX.out, List.length_append, be4_length]; exact HO6.out⟩⟩
    · have ht : ls.take i = ls := List.take_of_length_le (by omega)
      have HP : Aside (GrownPost w (fours ls) (.returned u3) wr) := ⟨_, rfl, by rw [← ht]; exact HO.out, HB.out⟩
      replace hi : ls.length ≤ i := by omega
      clear ht HO HB
      go_wp2
      go_ret
      exact HP.out
def FourPost (w : World) (B : Nat) (v : Value) (bs : List UInt8) (e : Ending) (w' : World) : Prop :=
  ∃ v', e = .returned v' ∧ w'.ownsRow B 5 1 v' bs.length (u8s bs) ∧ w.grownBy w' v.ownBlock ∧ Moved w v v'
set_option maxHeartbeats 4000000 in
set_option maxRecDepth 100000 in
theorem refFour_any {w : World} {v : Value} {bs : List UInt8} (B : Nat) (hB : B ≤ w.heap.size) (HO : w.ownsRow B 5 1 v bs.length (u8s bs)) {x : Int} (hx0 : 0 ≤ x) (hx1 : x ≤ 4294967295) (hl : bs.length ≤ 1099511627776) :
    Calls Tryz.prog 34 #[v, .int .i64 x] w (FourPost w B v (bs ++ be4 x)) := by
  have HX := Aside.mk (u8s_be4 hx0 hx1)
  have HB := Aside.mk hB
  have HO1 := Aside.mk HO
  obtain ⟨A, m, c, hv⟩ := own_slice HO
  subst hv
  clear HO hB
  go_enter Tryz.func34, Tryz.ntmps34
  go_wp2_with (at_builtin; go_must (refine app_manyM B 4 rfl _ _ 25 5 (.int .u8 0) 1 1 rfl Tryz.underlying25 Tryz.infoByte rfl (by decide) (by decide) (.slice A m c) bs.length _ [.int .u8 (x / 16777216), .int .u8 (x / 65536 % 256), .int .u8 (x / 256 % 256), .int .u8 (x % 256)] rfl rfl rfl (by simp [Value.oneCell']) HO1.out HB.out (by omega) ?_; intro v1 w6 hown hg6 hat; obtain ⟨A1, m1, c1, rfl⟩ := own_slice hown; have HP : Aside (FourPost w B (.slice A m c) (bs ++ be4 x) (.returned (.slice A1 m1 c1)) w6) := ⟨_, rfl, by rw [u8s_append, HX.out, List.length_append, be4_length]; exact hown, hg6, by rcases hat with e | e; exact .inl e; exact .inr ⟨_, e, by omega⟩⟩; clear hown hg6 hat))
  go_ret
  exact HP.out
theorem run_append_none' {P : Program} {w : World} (base : Nat) (t ty e : TypeId) (i : TypeInfo) (size c : Nat) (ht : P.underlying t = some (.slice e)) (hi : P.info? e = some i)
    (v : Value) (n : Nat) (xs : List Value) (hown : w.ownsRow base e size v n xs) :
    (Builtin.append_ #[t, t] ty #[v, .slice none 0 c]).run P w = .ok v w := by
  rcases hown.2 with ⟨rfl, rfl⟩ | ⟨g, cap, cur, rfl, _, _, hnc, _⟩
  · simp [Builtin.append_, run_underlying ht, sizeOf, typeInfo, hi, Builtin.lenOf, Builtin.firstCells]
  · simp [Builtin.append_, run_underlying ht, sizeOf, typeInfo, hi, Builtin.lenOf, Builtin.firstCells, hnc, storeCells]
theorem app_bytes {ops : Array Oper} {rest : List Oper} {o : Oper} {a : Act} {Q : Exit → Act → World → Prop} {w : World} {ok : Nat → Prop} (B : Nat) (hgd : o.guard = none) (s x : Operand)
    (ho : o.op = .call { callee := .builtin .append, args := #[s, x], argTypes := #[25, 25] })
    (v : Value) (n : Nat) (xs : List Value) (A : Option Addr) (c : Nat) (ys : List UInt8) (hs : a.eval s = v) (hx : a.eval x = .slice A ys.length c) (HO : w.ownsRow B 5 1 v n xs) (hy : Sl kbyte w ok (.slice A ys.length c) ys) (hbase : B ≤ w.heap.size)
    (hl : n + ys.length ≤ 140737488355328)
    (h : ∀ v1 w1, w1.ownsRow B 5 1 v1 (n + ys.length) (xs ++ u8s ys) → w.grownBy w1 v.ownBlock → (v1.ownBlock = v.ownBlock ∨ v1.ownBlock = some w.heap.size) → wpList Tryz.prog ops Q rest (a.put o.dst v1) w1) :
    wpList Tryz.prog ops Q (o :: rest) a w := by
  obtain ⟨i0, hi, hz0, hz1, hz2⟩ := info_parts Tryz.infoByte
  cases A with
  | none =>
    have h0 : ys = [] := by
      obtain ⟨A', c', e, _, _, h3⟩ := hy
      rcases Nat.eq_zero_or_pos ys.length with q | q
      · exact List.eq_nil_of_length_eq_zero q
      · obtain ⟨b, o, e2, _⟩ := h3 q
        cases e
        cases e2
    subst h0
    refine wpList_plain hgd fun K hK => ?_
    have hrun := run_append_none' (P := Tryz.prog) (w := w) B 25 o.type 5 i0 1 c Tryz.underlying25 hi v n xs HO
    unfold Oper.wp
    simp only [List.length_nil] at hx
    simp [execOp, ho, resolve, invoke, builtin, hs, hx, hrun, Result.andThen]
    exact hK _ _ (h v w (by simpa [u8s] using HO) ⟨rfl, rfl, rfl, Nat.le_refl _, fun _ _ _ => rfl⟩ (.inl rfl))
  | some ad =>
    refine wpList_append_own_at w hgd s x 25 ho B 5 i0 _ 1 1 Tryz.underlying25 hi hz0 hz1 hz2 rfl (by decide) v n xs hs HO ad ys.length c (u8s ys) hx (by rw [u8s_length, Nat.mul_one]) (fun j u hj => ?_)
      (fun u hu => by unfold u8s at hu; obtain ⟨b, _, rfl⟩ := List.mem_map.1 hu; rfl) (by simp only [maxLen]; omega) (by omega) hbase fun v1 w1 h1 h2 _ h4 => h v1 w1 h1 h2 h4
    have hjl : j < ys.length := by have := (List.getElem?_eq_some_iff.1 hj).1; rwa [u8s_length] at this
    obtain ⟨b, o', e, hc⟩ := hy.byte j hjl
    cases e
    rw [addr_add, hc]
    unfold u8s at hj
    rw [List.getElem?_map, List.getElem?_eq_getElem hjl] at hj
    simpa using hj
def BytesPost (w : World) (bs : List UInt8) (e : Ending) (w' : World) : Prop := ∃ v, e = .returned v ∧ w'.ownsRow w.heap.size 5 1 v bs.length (u8s bs) ∧ Below w.heap.size w w'
set_option maxHeartbeats 4000000 in
set_option maxRecDepth 100000 in
theorem Bytes_any {w : World} {ok : Nat → Prop} {v : Value} {bs : List UInt8} (hs : Sl kbyte w ok v bs) (hl : bs.length ≤ 1099511627776) : Calls Tryz.prog 18 #[v] w (BytesPost w bs) := by
  obtain ⟨A, c, rfl, hc, hm⟩ := hs.slice
  obtain ⟨i0, hi0, hz0, hz1, hz2⟩ := info_parts Tryz.infoByte
  have hmk : (Instr.makeSlice 25 (.int .i64 0) (.int .i64 (bs.length : Int))).run Tryz.prog w = .ok (.slice (some ⟨w.heap.size, 0, none⟩) 0 bs.length) (w.alloc (.cells (madeCells #[.int .u8 0] bs.length) 5)) := by
    have h := run_make (P := Tryz.prog) w 25 5 i0 _ Tryz.underlying25 hi0 hz0 .i64 .i64 0 (bs.length : Int) (by omega) (by omega) (by rw [hz2]; omega) (by omega)
    have e : (bs.length : Int).toNat = bs.length := by omega
    rw [e, hz1] at h
    simpa [Value.cells] using h
  have HR0 : Aside ((w.alloc (.cells (madeCells #[.int .u8 0] bs.length) 5)).ownsRow w.heap.size 5 1 (.slice (some ⟨w.heap.size, 0, none⟩) 0 bs.length) 0 []) := ⟨World.ownsRow_made w _ bs.length (Nat.le_refl _) (by simp only [maxLen]; omega) (by rw [size_madeCells]; omega)⟩
  have HB0 := Aside.mk ((Below.refl w.heap.size w).alloc (Nat.le_refl _) (.cells (madeCells #[.int .u8 0] bs.length) 5))
  have HS0 := Aside.mk (hs.below HB0.out)
  clear hs hi0 hz0 hz1 hz2
  go_enter Tryz.func18, Tryz.ntmps18
  go_wp2_with (at_builtin; go_must (refine app_bytes w.heap.size rfl _ _ rfl _ 0 [] A c bs rfl rfl HR0.out HS0.out HB0.out.size (by omega) ?_; intro v1 w1 hown hg hat; obtain ⟨A1, m1, c1, rfl⟩ := own_slice hown; have HP : Aside (BytesPost w bs (.returned (.slice A1 m1 c1)) w1) := ⟨_, rfl, by simpa using hown, HB0.out.grown hg HB0.out.size fun q e => (HR0.out.lt q e).1⟩; clear hown hg hat))
  go_ret
  exact HP.out

set_option maxHeartbeats 400000 in
set_option maxRecDepth 100000 in
theorem refLen_any (x : Nat) (hx : x < 9223372036854775808) (w : World) : Calls Tryz.prog 72 #[.int .i64 x] w fun e w' => e = .returned (.int .i64 ((vform x).length : Nat)) ∧ w' = w := by
  have HB : Aside ((vform x).length ≤ 10) := ⟨by
    have h := vhi_length 9 (x / 128) (by rw [Nat.div_lt_iff_lt_mul (by omega)]; omega)
    simp only [vform, List.length_append, List.length_singleton]
    omega⟩
  have H0 : Aside ((vform x).length + 1 = (vform x).length + 1) := ⟨rfl⟩
  have HX := Aside.mk hx
  clear hx
  go_enter Tryz.func72, Tryz.ntmps72
  go_wp2
  go_loopg [0, 3] (vform x).length (fun kq v0 v3 wr => ∃ (y n : Nat), Aside (y < 9223372036854775808) ∧ Aside (kq = (vform y).length) ∧ v0 = .int .i64 y ∧ v3 = .int .i64 n ∧ Aside (n + (vform y).length = (vform x).length + 1) ∧ wr = w)
  case atStart => exact ⟨x, 1, HX, ⟨rfl⟩, rfl, rfl, ⟨by omega⟩, rfl⟩
  case round =>
    obtain ⟨y, n, HY, HK, rfl, rfl, HN, rfl⟩ := hrel
    have hn : n ≤ 11 := by have := HN.out; have := HB.out; omega
    have hyb : y < 9223372036854775808 := HY.out
    by_cases hy : 128 ≤ y
    · have HS := Aside.mk (vform_len_step hy)
      have hd : decide ((128 : Int) ≤ (y : Int)) = true := decide_eq_true (by omega)
      have hy0 : (0 : Int) ≤ (y : Int) := by omega
      have hy1 : (y : Int) ≤ 9223372036854775807 := by omega
      go_wp2
      go_roundg (vform (y / 128)).length
      case measure => have := HK.out; have := HS.out; omega
      case rel => exact ⟨y / 128, n + 1, ⟨by have := HY.out; omega⟩, ⟨rfl⟩, by first | rfl | (go_num) | simp, by go_num, ⟨by have := HN.out; have := HS.out; omega⟩, rfl⟩
    · have HS := Aside.mk (vform_len_small (show y < 128 by omega))
      have hnv : n = (vform x).length := by have := HN.out; have := HS.out; omega
      replace hy : y < 128 := by omega
      have hd : decide ((128 : Int) ≤ (y : Int)) = false := decide_eq_false (by omega)
      clear HN HB
      go_wp2
      go_ret
      exact ⟨by first | rfl | (rw [hnv]; rfl), rfl⟩
set_option maxHeartbeats 4000000 in
set_option maxRecDepth 100000 in
/-- pithref1.Put: a copy of the bytes, the number's form behind them. -/
theorem refPut_any (x : Nat) (hx : x < 9223372036854775808) {w : World} {ok : Nat → Prop} {v : Value} {bs : List UInt8} (hs : Sl kbyte w ok v bs) (hl : bs.length ≤ 1099511627776) :
    Calls Tryz.prog 33 #[v, .int .i64 x] w (GrownPost w (bs ++ vform x)) := by
  obtain ⟨A, c, rfl, hc, hm⟩ := hs.slice
  have HTop := Aside.mk (vpre_top hx)
  have HL10 : Aside ((vform x).length ≤ 10) := ⟨by
    have h := vhi_length 9 (x / 128) (by rw [Nat.div_lt_iff_lt_mul (by omega)]; omega)
    rw [vform_len]
    omega⟩
  have HNx0 := Aside.mk (fun i => vpre_next (x := x) (i := i))
  have HLb := Aside.mk hl
  have hcall := refLen_any x hx w
  have hcall2 := Bytes_any hs hl
  obtain ⟨L, hL⟩ : ∃ L, L = (vform x).length := ⟨_, rfl⟩
  have hLp : 0 < L := by rw [hL]; exact vform_pos x
  rw [← hL] at hcall HL10 HTop
  have HLe := Aside.mk hL
  have hL10 : L ≤ 10 := HL10.out
  have HFin : Aside (∀ wr u, Below w.heap.size w wr → wr.ownsRow w.heap.size 5 1 u (bs ++ vpre x 0).length (u8s (bs ++ vpre x 0)) → GrownPost w (bs ++ vform x) (.returned u) wr) := ⟨fun wr u h1 h2 => ⟨u, rfl, h2, h1⟩⟩
  clear hl hL hs
  go_enter Tryz.func33, Tryz.ntmps33
  go_wp2_with fail
  refine hcall.mono ?_
  clear hcall
  rintro e wa ⟨rfl, hwa⟩
  subst wa
  go_wp2_with fail
  refine hcall2.mono ?_
  clear hcall2
  rintro e w1 ⟨v1, rfl, ho1, B1⟩
  have HB1 := Aside.mk B1
  have HO1 : Aside (w1.ownsRow w.heap.size 5 1 v1 (bs ++ vpre x L).length (u8s (bs ++ vpre x L))) := ⟨by rw [HTop.out, List.append_nil]; exact ho1⟩
  have HKL0 : Aside (L ≤ L) := ⟨Nat.le_refl _⟩
  clear ho1 B1
  go_wp2
  go_loopg [6, 7] L (fun kq v6 v7 wr => ∃ (k : Nat), Aside (k = kq) ∧ Aside (k ≤ L) ∧ v7 = .int .i64 ((k : Int) - 1) ∧ Aside (Below w.heap.size w wr) ∧ Aside (wr.ownsRow w.heap.size 5 1 v6 (bs ++ vpre x k).length (u8s (bs ++ vpre x k))))
  case atStart => exact ⟨L, ⟨rfl⟩, HKL0, rfl, HB1, HO1⟩
  case round =>
    clear HB1 HO1
    obtain ⟨k, HK, HKL, rfl, HB, HO0⟩ := hrel
    obtain ⟨A0, m0, c0, rfl⟩ : ∃ A m c, u6 = .slice A m c := by rcases HO0.out.2 with ⟨h, _⟩ | ⟨g, cap, cur, h, _⟩ <;> exact ⟨_, _, _, h⟩
    by_cases hk : 0 < k
    · obtain ⟨i, rfl⟩ : ∃ i, k = i + 1 := ⟨k - 1, by omega⟩
      have he : ((i + 1 : Nat) : Int) - 1 = (i : Int) := by omega
      rw [he]
      have hi9 : i ≤ 9 := by have := HKL.out; omega
      have HNx : Aside (vpre x i = vpre x (i + 1) ++ [UInt8.ofNat (vbyte x i)]) := ⟨HNx0.out i (by have := HKL.out; have := HLe.out; omega)⟩
      have hvb : vbyte x i < 256 := by unfold vbyte; split <;> omega
      have HU : Aside (u8s [UInt8.ofNat (vbyte x i)] = [.int .u8 (vbyte x i)]) := ⟨by
        simp only [u8s, List.map_cons, List.map_nil, UInt8.toNat_ofNat']
        rw [Nat.mod_eq_of_lt (by omega)]⟩
      have HLen : Aside ((bs ++ vpre x (i + 1)).length ≤ 1099511627800) := ⟨by
        rw [List.length_append]
        have h2 : (vpre x (i + 1)).length ≤ 9 := by
          unfold vpre
          rw [if_neg (by omega)]
          exact vhi_length 9 _ (Nat.lt_of_le_of_lt (Nat.div_le_self _ _) hx)
        have := HLb.out
        omega⟩
      have hg : bits .and .i64 ((x : Int) / 2 ^ (7 * i)) 127 = ((x / 128 ^ i % 128 : Nat) : Int) := by
        have e2 : (2 : Int) ^ (7 * i) = ((128 ^ i : Nat) : Int) := by
          rw [show (2 : Int) ^ (7 * i) = ((2 ^ (7 * i) : Nat) : Int) by rw [Int.natCast_pow]; rfl, Nat.pow_mul]
        rw [i64_and127, e2]
        rfl
      have hz : x / 128 ^ i % 128 < 128 := by omega
      by_cases h0 : 0 < i
      · have hv : vbyte x i = x / 128 ^ i % 128 + 128 := by unfold vbyte; rw [if_neg (by omega)]
        rw [hv] at HNx HU
        have di : decide ((0 : Int) < (i : Int)) = true := decide_eq_true (by omega)
        have din : decide (0 < i) = true := decide_eq_true (by omega)
        generalize x / 128 ^ i % 128 = z at *
        clear hvb hv
        go_wp2_with (at_builtin; go_must (refine app_one w.heap.size rfl _ _ 25 5 (.int .u8 0) 1 1 rfl Tryz.underlying25 Tryz.infoByte rfl (by decide) (by decide) (.slice A0 m0 c0) (bs ++ vpre x (i + 1)).length _ [.int .u8 (((z + 128 : Nat) : Int))] rfl rfl rfl (by simp [Value.oneCell']) HO0.out HB.out.size (by have := HLen.out; omega) ?_; intro v1 w6 hown hg6 hat; have HB6 := Aside.mk (HB.out.grown hg6 HB.out.size fun q e => (HO0.out.lt q e).1); have HO6 := Aside.mk hown; clear hown hg6 hat))
        go_roundg i
        case measure => have := HK.out; omega
        case rel => exact ⟨i, ⟨rfl⟩, ⟨by have := HKL.out; omega⟩, by first | rfl | go_num, HB6, ⟨by rw [HNx.out, ← List.append_assoc, u8s_append, List.length_append, HU.out]; exact HO6.out⟩⟩
      · have hi0 : i = 0 := by omega
        subst hi0
        have hv : vbyte x 0 = x % 128 := by unfold vbyte; simp
        have hg0 : bits .and .i64 (x : Int) 127 = ((x % 128 : Nat) : Int) := by simpa using hg
        have hz0 : x % 128 < 128 := by omega
        rw [hv] at HNx HU
        clear hg hz
        generalize x % 128 = z at *
        clear hvb hv
        go_wp2_with (at_builtin; go_must (refine app_one w.heap.size rfl _ _ 25 5 (.int .u8 0) 1 1 rfl Tryz.underlying25 Tryz.infoByte rfl (by decide) (by decide) (.slice A0 m0 c0) (bs ++ vpre x (0 + 1)).length _ [.int .u8 ((z : Int))] rfl rfl rfl (by simp [Value.oneCell']) HO0.out HB.out.size (by have := HLen.out; omega) ?_; intro v1 w6 hown hg6 hat; have HB6 := Aside.mk (HB.out.grown hg6 HB.out.size fun q e => (HO0.out.lt q e).1); have HO6 := Aside.mk hown; clear hown hg6 hat))
        go_roundg 0
        case measure => have := HK.out; omega
        case rel => exact ⟨0, ⟨rfl⟩, ⟨by have := HKL.out; omega⟩, by first | rfl | go_num, HB6, ⟨by rw [HNx.out, ← List.append_assoc, u8s_append, List.length_append, HU.out]; exact HO6.out⟩⟩
    · have hk0 : k = 0 := by omega
      subst hk0
      have HP := Aside.mk (HFin.out wr _ HB.out HO0.out)
      clear HO0 HB HFin
      go_wp2
      go_ret
      exact HP.out
end Go.Proofs.YtjncnppbaldmiaaGreatDoor
