/- nest.four walked: numbers of four bytes behind others. No condition. -/
import Derived.Test.YtikgdhmnnnicmaaDoorMy
namespace Go.Proofs.YtikgdhmnnnicmaaDoor
open Go.RowKit
def be4 (x : Int) : List UInt8 := [UInt8.ofNat (x / 16777216).toNat, UInt8.ofNat (x / 65536).toNat, UInt8.ofNat (x / 256).toNat, UInt8.ofNat x.toNat]
def u8s (bs : List UInt8) : List Value := bs.map fun b => .int .u8 b.toNat
theorem u8s_append (xs ys : List UInt8) : u8s (xs ++ ys) = u8s xs ++ u8s ys := by simp [u8s]
theorem u8s_length (xs : List UInt8) : (u8s xs).length = xs.length := by simp [u8s]
def fours (xs : List Int) : List UInt8 := xs.flatMap be4
theorem be4_length (x : Int) : (be4 x).length = 4 := rfl
theorem fours_length (xs : List Int) : (fours xs).length = 4 * xs.length := by
  induction xs with
  | nil => rfl
  | cons x xs ih => simp only [fours, List.flatMap_cons, List.length_append, be4_length, List.length_cons] at *; omega
theorem fours3 (a b c : Int) : fours [a, b, c] = be4 a ++ (be4 b ++ (be4 c ++ [])) := by simp [fours]
theorem fours4 (a b c d : Int) : fours [a, b, c, d] = be4 a ++ (be4 b ++ (be4 c ++ (be4 d ++ []))) := by simp [fours]
theorem u8s_be4 {x : Int} (h0 : 0 ≤ x) (h1 : x ≤ 4294967295) : u8s (be4 x) = [.int .u8 (x / 16777216), .int .u8 (x / 65536 % 256), .int .u8 (x / 256 % 256), .int .u8 (x % 256)] := by
  obtain ⟨n, rfl⟩ : ∃ n : Nat, x = (n : Int) := ⟨x.toNat, by omega⟩
  simp only [be4, u8s, List.map_cons, List.map_nil, UInt8.toNat_ofNat']
  have a1 : (((n : Int) / 16777216).toNat % 2 ^ 8 : Nat) = ((n : Int) / 16777216).toNat := by omega
  have a2 : ((((n : Int) / 65536).toNat % 2 ^ 8 : Nat) : Int) = (n : Int) / 65536 % 256 := by omega
  have a3 : ((((n : Int) / 256).toNat % 2 ^ 8 : Nat) : Int) = (n : Int) / 256 % 256 := by omega
  have a4 : ((((n : Int)).toNat % 2 ^ 8 : Nat) : Int) = (n : Int) % 256 := by omega
  have a5 : ((((n : Int) / 16777216).toNat : Nat) : Int) = (n : Int) / 16777216 := by omega
  rw [a1, a2, a3, a4, a5]
theorem Tryd.infoByte : (Tryd.prog.info? 5).map (fun i => (i.zero, i.size, i.bytes)) = some (some (.int .u8 0), 1, 1) := by kernel_rfl
/-- append(v, ys...) of elements that have just been boxed in a block of their own. -/
theorem app_many {P : Program} {ops : Array Oper} {rest : List Oper} {o : Oper} {a : Act} {Q : Exit → Act → World → Prop} {W : World} (B k : Nat) (hgd : o.guard = none) (s x : Operand) (t e : TypeId) (z : Value) (size bytes : Nat)
    (ho : o.op = .call { callee := .builtin .append, args := #[s, x], argTypes := #[t, t] })
    (ht : P.underlying t = some (.slice e)) (hinfo : (P.info? e).map (fun i => (i.zero, i.size, i.bytes)) = some (some z, size, bytes)) (hz : z.cells.size = size) (hsz : 0 < size) (hb0 : 0 < bytes)
    (v : Value) (n : Nat) (xs ys : List Value) (hs : a.eval s = v) (hx : a.eval x = .slice (some ⟨W.heap.size, 0, none⟩) k k) (hy : ys.length = k * size) (h1 : ∀ u ∈ ys, u.oneCell' = true)
    (HO : W.ownsRow B e size v n xs) (hbase : B ≤ W.heap.size) (hl : (n + k) * bytes ≤ 140737488355328)
    (h : ∀ v1 w1, w1.ownsRow B e size v1 (n + k) (xs ++ ys) → W.grownBy w1 v.ownBlock → (v1.ownBlock = v.ownBlock ∨ v1.ownBlock = some (W.heap.size + 1)) → wpList P ops Q rest (a.put o.dst v1) w1) :
    wpList P ops Q (o :: rest) a (W.alloc (.cells ys.toArray e)) := by
  obtain ⟨i0, hi, hz0, hz1, hz2⟩ := info_parts hinfo
  have hlen : n + k ≤ 140737488355328 := Nat.le_trans (Nat.le_mul_of_pos_right _ hb0) hl
  refine wpList_append_own_at (W.alloc (.cells ys.toArray e)) hgd s x t ho B e i0 z size bytes ht hi hz0 hz1 hz2 hz hsz v n xs hs (HO.alloc _) ⟨W.heap.size, 0, none⟩ k k ys hx (by omega)
    (World.news_of_block (cs := ys.toArray) (t := e) (fr := (0, 0)) (heap_alloc_new W _)) h1 (by simp only [maxLen]; omega) hl (by simp; omega) ?_
  intro v1 w1 hown hg _ hat
  exact h v1 w1 hown (World.grownBy.trans (World.grownBy_alloc W _ _) hg) (by simpa using hat)
/-- A row that grew may have left its block for a new one. -/
def Moved (w : World) (v v' : Value) : Prop := v'.ownBlock = v.ownBlock ∨ ∃ k, v'.ownBlock = some k ∧ w.heap.size ≤ k
theorem grown_step {w w1 w2 : World} {v v1 v2 : Value} (h : w.grownBy w1 v.ownBlock) (m : Moved w v v1) (g : w1.grownBy w2 v1.ownBlock) (m2 : Moved w1 v1 v2) : w.grownBy w2 v.ownBlock ∧ Moved w v v2 := by
  refine ⟨⟨g.os.trans h.os, g.tape.trans h.tape, g.output.trans h.output, Nat.le_trans h.size g.size, fun k hk hne => ?_⟩, ?_⟩
  · refine (g.block k (Nat.lt_of_lt_of_le hk h.size) ?_).trans (h.block k hk hne)
    rcases m with e | ⟨q, e, hq⟩
    · rw [e]; exact hne
    · rw [e]; intro hc; have := Option.some.inj hc; omega
  · rcases m2 with e2 | ⟨q, e2, hq⟩
    · rcases m with e | ⟨q, e, hq⟩
      · exact .inl (e2.trans e)
      · exact .inr ⟨q, e2.trans e, hq⟩
    · exact .inr ⟨q, e2, Nat.le_trans h.size hq⟩
def FourPost (w : World) (B : Nat) (v : Value) (bs : List UInt8) (e : Ending) (w' : World) : Prop :=
  ∃ v', e = .returned v' ∧ w'.ownsRow B 5 1 v' bs.length (u8s bs) ∧ w.grownBy w' v.ownBlock ∧ Moved w v v'
theorem fours_take {ls : List Int} {i : Nat} (hi : i < ls.length) : fours (ls.take (i + 1)) = fours (ls.take i) ++ be4 ls[i] := by
  unfold fours
  rw [take_snoc hi, List.flatMap_append]
  simp only [List.flatMap_cons, List.flatMap_nil, List.append_nil]
set_option maxHeartbeats 4000000 in
set_option maxRecDepth 100000 in
theorem four_any {w : World} {ok : Nat → Prop} {v lv : Value} {ls : List Int} {bs : List UInt8} (B : Nat) (hB : B ≤ w.heap.size) (HO : w.ownsRow B 5 1 v bs.length (u8s bs)) (hs : Sl kint w (fun k => ok k ∧ some k ≠ v.ownBlock) lv ls) (hr : ∀ x ∈ ls, 0 ≤ x ∧ x ≤ 4294967295) (hl : bs.length + 4 * ls.length ≤ 1099511627776) :
    Calls Tryd.prog 23 #[v, lv] w (FourPost w B v (bs ++ fours ls)) := by
  obtain ⟨A, c, rfl, hc, hm⟩ := hs.slice
  have HS : Aside (∀ W, w.grownBy W v.ownBlock → Sl kint W (fun _ => True) (.slice A ls.length c) ls) := ⟨fun W hW => (hs.step fun k hk hlt => hW.block k hlt hk.2).mono fun _ _ => trivial⟩
  clear hs
  have HR := Aside.mk hr
  have HLe := Aside.mk hl
  have HO0 : Aside (w.ownsRow B 5 1 v (bs ++ fours (ls.take 0)).length (u8s (bs ++ fours (ls.take 0)))) := ⟨by simpa [fours] using HO⟩
  have HBs := Aside.mk hB
  have HG0 : Aside (w.grownBy w v.ownBlock ∧ Moved w v v) := ⟨⟨⟨rfl, rfl, rfl, Nat.le_refl _, fun _ _ _ => rfl⟩, .inl rfl⟩⟩
  have hlb : ls.length ≤ 1099511627776 := by omega
  obtain ⟨v0, hv0⟩ : ∃ v0, v0 = v := ⟨_, rfl⟩
  rw [← hv0] at HO0
  have HV := Aside.mk hv0
  have HG1 : Aside (w.grownBy w v.ownBlock ∧ Moved w v v0) := ⟨by rw [hv0]; exact HG0.out⟩
  have hgoal : Calls Tryd.prog 23 #[v0, .slice A ls.length c] w (FourPost w B v (bs ++ fours ls)) := by
    clear hr HO hl hB hv0 HV HG0
    go_enter Tryd.func23, Tryd.ntmps23
    go_wp2
    go_loopg [0, 9] ls.length (fun kq vb iv wr => ∃ (i : Nat), Aside (i + kq = ls.length) ∧ iv = .int .i64 i ∧ Aside (w.grownBy wr v.ownBlock ∧ Moved w v vb) ∧ Aside (wr.ownsRow B 5 1 vb (bs ++ fours (ls.take i)).length (u8s (bs ++ fours (ls.take i)))))
    case atStart => exact ⟨0, ⟨by omega⟩, rfl, HG1, HO0⟩
    case round =>
      clear HO0 HG1
      obtain ⟨i, HI, rfl, HG, HO⟩ := hrel
      by_cases hi : i < ls.length
      · obtain ⟨b, o, e, k0⟩ := (HS.out wr HG.out.1).int i hi
        cases e
        have hx := HR.out ls[i] (List.getElem_mem hi)
        have HT := Aside.mk (fours_take hi)
        have hlen : (bs ++ fours (ls.take i)).length + 4 ≤ 1099511627776 := by rw [List.length_append, fours_length, List.length_take]; have := HLe.out; omega
        generalize ls[i] = x at *
        obtain ⟨hx0, hx1⟩ := hx
        have HX := Aside.mk (u8s_be4 hx0 hx1)
        have HLen := Aside.mk hlen
        have hbs : B ≤ wr.heap.size := Nat.le_trans HBs.out HG.out.1.size
        have HBS := Aside.mk hbs
        clear hlen hbs
        go_wp2_with (at_builtin; go_must (refine app_many B 4 rfl _ _ 28 5 (.int .u8 0) 1 1 rfl Tryd.underlying28 Tryd.infoByte rfl (by decide) (by decide) u0 (bs ++ fours (ls.take i)).length _ [.int .u8 (x / 16777216), .int .u8 (x / 65536 % 256), .int .u8 (x / 256 % 256), .int .u8 (x % 256)] rfl rfl rfl (by simp [Value.oneCell']) HO.out HBS.out (by have := HLen.out; omega) ?_; intro v1 w6 hown hg6 hat; have HG6 := Aside.mk hg6; have HO6 := Aside.mk hown; have HAt := Aside.mk hat; clear hown hg6 hat))
        go_roundg (ls.length - (i + 1))
        case measure => have := HI.out; omega
        case rel => exact ⟨i + 1, ⟨by omega⟩, by go_num, ⟨grown_step HG.out.1 HG.out.2 HG6.out (by rcases HAt.out with e | e; exact .inl e; exact .inr ⟨_, e, by omega⟩)⟩, ⟨by rw [HT.out, ← List.append_assoc, u8s_append, HX.out, List.length_append, be4_length]; exact HO6.out⟩⟩
      · have ht : ls.take i = ls := List.take_of_length_le (by omega)
        have HP : Aside (FourPost w B v (bs ++ fours ls) (.returned u0) wr) := ⟨_, rfl, by rw [← ht]; exact HO.out, HG.out.1, HG.out.2⟩
        replace hi : ls.length ≤ i := by omega
        clear ht HO HG
        go_wp2
        go_ret
        exact HP.out
  rw [hv0] at hgoal
  exact hgoal
end Go.Proofs.YtikgdhmnnnicmaaDoor
