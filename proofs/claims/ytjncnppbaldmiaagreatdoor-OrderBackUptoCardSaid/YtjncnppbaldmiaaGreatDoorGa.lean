/- Names of files: the program's and the document's question whether a text is one. No condition. -/
import Derived.Test.YtjncnppbaldmiaaGreatDoorB
import Derived.Maps.RangeWalk
import Derived.LaidEqlPtr
import Derived.Lib.BufferMore
import Derived.Laws.BitsAllLaws
namespace Go.Proofs.YtjncnppbaldmiaaGreatDoor
section
open Go.RowKit
section
open Go.ChangeMaps (setBlock)
variable {P : Program} {w : World} {ops : Array Oper} {rest : List Oper} {o : Oper} {a : Act} {Q : Exit → Act → World → Prop}
/-- Nothing but the block r is another. -/
structure Turn (r : Nat) (w w' : World) : Prop where
  os : w'.os = w.os
  tape : w'.tape = w.tape
  output : w'.output = w.output
  size : w'.heap.size = w.heap.size
  block : ∀ q, q ≠ r → w'.heap[q]? = w.heap[q]?
theorem Turn.below {r B : Nat} {w0 w w' : World} (h : Turn r w w') (hb : Below B w0 w) (hr : B ≤ r) : Below B w0 w' :=
  ⟨h.os.trans hb.os, h.tape.trans hb.tape, h.output.trans hb.output, by rw [h.size]; exact hb.size, fun q hq => (h.block q (by omega)).trans (hb.block q hq)⟩
theorem Turn.cell {r : Nat} {w w' : World} (h : Turn r w w') {a : Addr} (hr : a.block ≠ r) {v : Value} (hc : w.cell? a = some v) : w'.cell? a = some v := by
  unfold World.cell? at *
  rw [h.block _ hr]
  exact hc
theorem wpList_range_raw (hgd : o.guard = none) (m : Operand) (t k e : TypeId) (hop : o.op = .range t m) (ht : P.underlying t = some (.map k e)) {bm clock : Nat} {es : Array MapEntry} (hv : a.eval m = .map (some bm)) (hb : w.heap[bm]? = some (.map es clock))
    (h : wpList P ops Q rest (a.put o.dst (.pointer (some ⟨w.heap.size, 0, none⟩))) (w.alloc (.mapIter (some bm) clock #[] clock))) : wpList P ops Q (o :: rest) a w := by
  refine wpList_plain hgd fun K hK => ?_
  unfold Oper.wp
  simp [execOp, hop, hv, run_range_map w t k e bm es clock ht hb, Result.andThen]
  exact hK _ _ h
/-- One more entry, or the end. -/
theorem wpList_next_raw (hgd : o.guard = none) (it : Operand) (hop : o.op = .next it false) {r bm since c0 clock : Nat} {seen : Array Nat} {es : Array MapEntry} (hv : a.eval it = .pointer (some ⟨r, 0, none⟩))
    (hr : w.heap[r]? = some (.mapIter (some bm) since seen c0)) (hb : w.heap[bm]? = some (.map es clock)) (hold : ∀ x ∈ es.toList, x.born < since) (hsc : since ≤ c0) (hn : (es.toList.map (·.born)).Nodup)
    (h0 : (leftOf es seen).size = 0 → wpList P ops Q rest (a.put o.dst (.tuple #[.bool false])) w)
    (h1 : ∀ e ∈ (leftOf es seen).toList, ∀ w', Turn r w w' → w'.heap[r]? = some (.mapIter (some bm) since (seen.push e.born) clock) → (Instr.entry (.pointer (some ⟨r, 0, none⟩))).run P w' = .ok (.tuple #[e.key, e.val]) w' →
      wpList P ops Q rest (a.put o.dst (.tuple #[.bool true, e.key, e.val])) w') : wpList P ops Q (o :: rest) a w := by
  refine wpList_plain hgd fun K hK => ?_
  unfold Oper.wp
  rcases run_next_at (P := P) w o.type r bm since c0 seen es clock hr hb hold hsc with ⟨q1, q2⟩ | ⟨e, he, w1, hw1, hrun⟩
  · simp [execOp, hop, hv, q2, Result.andThen]
    exact hK _ _ (h0 q1)
  · simp [execOp, hop, hv, hrun, Result.andThen]
    have hlt : r < w.heap.size := blk_lt hr
    have hw : w1.heap = w.heap ∧ w1.os = w.os ∧ w1.tape = w.tape ∧ w1.output = w.output := by rcases hw1 with rfl | rfl <;> exact ⟨rfl, rfl, rfl, rfl⟩
    have hne : bm ≠ r := fun e => by rw [e, hr] at hb; cases hb
    have t1 : Turn r w (setBlock w1 r (.mapIter (some bm) since (seen.push e.born) clock)) := ⟨hw.2.1, hw.2.2.1, hw.2.2.2, by simp [setBlock, hw.1], fun q hq => by simp [setBlock, hw.1, Ne.symm hq]⟩
    have r1 : (setBlock w1 r (.mapIter (some bm) since (seen.push e.born) clock)).heap[r]? = some (.mapIter (some bm) since (seen.push e.born) clock) := by simp [setBlock, hw.1, hlt]
    exact hK _ _ (h1 e he _ t1 r1 (run_entry_at _ r bm since seen es clock e r1 ((t1.block bm hne).trans hb) (mem_left he).1 hn))
end
theorem sum_without {es : List MapEntry} (L : MapEntry → Nat) {e : MapEntry} (hn : (es.map (·.born)).Nodup) (he : e ∈ es) : ((es.filter fun x => !(x.born == e.born)).map L).sum + L e = (es.map L).sum := by
  induction es with
  | nil => cases he
  | cons x xs ih =>
    simp only [List.map_cons, List.nodup_cons] at hn
    rcases List.mem_cons.1 he with rfl | hm
    · have : xs.filter (fun y => !(y.born == e.born)) = xs := List.filter_eq_self.2 fun y hy => by
        have : y.born ≠ e.born := fun q => hn.1 (q ▸ List.mem_map_of_mem hy)
        simpa using this
      rw [List.filter_cons_of_neg (by simp), this, List.map_cons, List.sum_cons]
      omega
    · have hne : x.born ≠ e.born := fun q => hn.1 (q ▸ List.mem_map_of_mem hm)
      rw [List.filter_cons_of_pos (by simpa using hne)]
      have := ih hn.2 hm
      simp only [List.map_cons, List.sum_cons]
      omega
theorem left_list (es : Array MapEntry) (seen : Array Nat) : (leftOf es seen).toList = es.toList.filter fun e => !seen.contains e.born := by
  unfold leftOf
  simp
theorem left_push (es : Array MapEntry) (seen : Array Nat) (b : Nat) : (leftOf es (seen.push b)).toList = ((leftOf es seen).toList).filter fun x => !(x.born == b) := by
  rw [left_list, left_list, List.filter_filter]
  congr 1
  funext x
  rw [contains_push]
  cases seen.contains x.born <;> cases (x.born == b) <;> rfl
theorem left_nodup {es : Array MapEntry} (hn : (es.toList.map (·.born)).Nodup) (seen : Array Nat) : ((leftOf es seen).toList.map (·.born)).Nodup := by
  rw [left_list]
  exact (List.filter_sublist.map _).nodup hn
theorem left_all (es : Array MapEntry) : (leftOf es #[]).toList = es.toList := by
  rw [left_list]
  exact List.filter_eq_self.2 fun x _ => by simp
end
section
open Go.RowKit
/-- A set of boxes of files: each key leads to one, of L bytes. -/
structure HeldM (w : World) (r : Nat) (es : Array MapEntry) (clock : Nat) (L : MapEntry → Nat) : Prop where
  obj : w.heap[r]? = some (.map es clock)
  nd : (es.toList.map (·.born)).Nodup
  born : ∀ e ∈ es.toList, e.born < clock
  key : ∀ e ∈ es.toList, ∃ x A c, e.key = .pointer (some ⟨x, 0, none⟩) ∧ w.cell? ⟨x, 0, none⟩ = some (.slice A (L e) c)
set_option maxHeartbeats 4000000 in
set_option maxRecDepth 100000 in
theorem held_any {w : World} {f r clock : Nat} {es : Array MapEntry} {L : MapEntry → Nat} (hf : w.cell? ⟨f, 4, none⟩ = some (.map (some r))) (hm : HeldM w r es clock L) (hs : (es.toList.map L).sum ≤ 9223372036854775807) :
    Calls Tryz.prog 88 #[.pointer (some ⟨f, 0, none⟩)] w fun e w' => e = .returned (.int .i64 ((es.toList.map L).sum : Nat)) ∧ Below w.heap.size w w' := by
  have HM := Aside.mk hm
  have hobj := hm.obj
  have HS := Aside.mk hs
  have HF := Aside.mk hf
  clear hm hs
  obtain ⟨N, hN⟩ : ∃ N, N = w.heap.size := ⟨_, rfl⟩
  have hb0 : Below N w (w.alloc (.mapIter (some r) clock #[] clock)) := by rw [hN]; exact (Below.refl _ w).alloc (Nat.le_refl _) _
  have hi0 : (w.alloc (.mapIter (some r) clock #[] clock)).heap[N]? = some (.mapIter (some r) clock #[] clock) := by rw [hN]; exact heap_alloc_new w _
  have HI0 : Aside (Below N w (w.alloc (.mapIter (some r) clock #[] clock)) ∧ (∃ c0, clock ≤ c0 ∧ (w.alloc (.mapIter (some r) clock #[] clock)).heap[N]? = some (.mapIter (some r) clock #[] c0)) ∧ 0 + ((leftOf es #[]).toList.map L).sum = (es.toList.map L).sum) := ⟨hb0, ⟨clock, Nat.le_refl _, hi0⟩, by rw [left_all]; omega⟩
  clear hb0 hi0
  have HNe := Aside.mk hN
  clear hN
  go_enter Tryz.func88, Tryz.ntmps88
  go_wp2_with (at_range; go_must (refine wpList_range_raw rfl _ 122 _ _ rfl Tryz.underlying122 rfl hobj ?_))
  rw [← HNe.out]
  generalize w.alloc (.mapIter (some r) clock #[] clock) = w0 at *
  clear hf hobj
  go_frame
  go_loopg [3] (leftOf es #[]).size (fun kq v3 wr => ∃ (n : Nat) (seen : Array Nat), Aside ((leftOf es seen).size = kq) ∧ v3 = .int .i64 n ∧ Aside (Below N w wr ∧ (∃ c0, clock ≤ c0 ∧ wr.heap[N]? = some (.mapIter (some r) clock seen c0)) ∧ n + ((leftOf es seen).toList.map L).sum = (es.toList.map L).sum))
  case atStart => exact ⟨0, #[], ⟨rfl⟩, rfl, HI0⟩
  case round =>
    clear HI0
    obtain ⟨n, seen, HK, rfl, HV⟩ := hrel
    obtain ⟨c0, hc0, hit⟩ := HV.out.2.1
    have hrl : r < N := by have := blk_lt HM.out.obj; have := HNe.out; omega
    have hobj : wr.heap[r]? = some (.map es clock) := (HV.out.1.block r hrl).trans HM.out.obj
    have HC := Aside.mk hc0
    have HB := Aside.mk HM.out.born
    have HN := Aside.mk HM.out.nd
    clear hrl hc0
    go_wp2_with (at_next; go_must (refine wpList_next_raw rfl _ rfl rfl hit hobj HB.out HC.out HN.out ?_ ?_))
    · intro hz
      have HP : Aside (n = (es.toList.map L).sum) := ⟨by
        have h := HV.out.2.2
        rw [hz] at h
        simpa using h⟩
      have HBl : Aside (Below w.heap.size w wr) := ⟨by rw [← HNe.out]; exact HV.out.1⟩
      clear hz hit hobj HV HK
      go_wp2
      go_ret
      exact ⟨congrArg (fun n : Nat => Ending.returned (.int .i64 (n : Int))) HP.out, HBl.out⟩
    · intro e he0 w1 hT h1 hen
      have he : e ∈ (leftOf es seen).toList := Array.mem_toList_iff.2 he0
      clear he0
      have hmem := (mem_left he).1
      obtain ⟨x, A, c, hkey, hcell⟩ := HM.out.key e hmem
      have hxl : x < N := by
        have := World.block_lt_of_cell? w _ hcell
        rw [HNe.out]; exact this
      have k1 : w1.cell? ⟨x, 0, none⟩ = some (.slice A (L e) c) := by
        have h2 : wr.cell? ⟨x, 0, none⟩ = some (.slice A (L e) c) := by
          unfold World.cell? at *
          rw [HV.out.1.block x hxl]
          exact hcell
        exact hT.cell (by show x ≠ N; omega) h2
      have hsum := sum_without L (left_nodup HN.out seen) he
      rw [← left_push] at hsum
      have HV2 : Aside (Below N w w1 ∧ (∃ c0, clock ≤ c0 ∧ w1.heap[N]? = some (.mapIter (some r) clock (seen.push e.born) c0)) ∧ (n + L e) + ((leftOf es (seen.push e.born)).toList.map L).sum = (es.toList.map L).sum) := ⟨hT.below HV.out.1 (Nat.le_refl _), ⟨clock, Nat.le_refl _, h1⟩, by have := HV.out.2.2; omega⟩
      have hlt : (leftOf es (seen.push e.born)).size < gk := by rw [← HK.out]; exact left_shrinks es seen e he
      have HM2 := Aside.mk hlt
      have hle : n + L e ≤ 9223372036854775807 := by have := HV2.out.2.2; have := HS.out; omega
      rw [hkey] at hen ⊢
      obtain ⟨le, hlee⟩ : ∃ le, le = L e := ⟨_, rfl⟩
      rw [← hlee] at HV2 hle k1
      clear hmem hkey hcell hxl hsum hlt HV hit hobj hT h1 hlee he HC
      go_wp2
      go_roundg (leftOf es (seen.push e.born)).size
      case measure => exact HM2.out
      case rel => exact ⟨n + le, seen.push e.born, ⟨rfl⟩, by go_num, HV2⟩
end
section
open Go.RowKit
section
open Go.ChangeMaps (setBlock)
variable {P : Program} {w : World} {ops : Array Oper} {rest : List Oper} {o : Oper} {a : Act} {Q : Exit → Act → World → Prop}
def keyIs (s : ByteArray) (e : MapEntry) : Bool :=
  match e.key with
  | .string z => s == z
  | _ => false
def StrKeys (es : List MapEntry) : Prop := ∀ e ∈ es, ∃ s, e.key = .string s
def findS (s : ByteArray) : List MapEntry → Nat → Option (Nat × Value)
  | [], _ => none
  | e :: es, i => if keyIs s e then some (i, e.val) else findS s es (i + 1)
theorem findNow_str (s : ByteArray) : ∀ (es : List MapEntry) (i : Nat), StrKeys es → Instr.findNow .string (.string s) es i = some (findS s es i)
  | [], _, _ => rfl
  | e :: es, i, h => by
    obtain ⟨z, hz⟩ := h e List.mem_cons_self
    have ih := findNow_str s es (i + 1) fun x hx => h x (List.mem_cons_of_mem _ hx)
    have hk : keyIs s e = (s == z) := by unfold keyIs; rw [hz]
    unfold Instr.findNow findS
    rw [hk, hz]
    simp only [Instr.sameNow]
    cases (s == z) with
    | true => simp
    | false => simpa using ih
theorem findKey_str {kt : TypeId} (ht : P.underlying kt = some .string) (s : ByteArray) {es : List MapEntry} (h : StrKeys es) : (Instr.findKey kt (.string s) es).run P w = .ok (findS s es 0) w := by
  simp only [Instr.findKey, Sem.run_bind, run_underlying ht, Result.andThen_ok, findNow_str s es 0 h, Sem.run_pure]
theorem checkKey_str {kt : TypeId} (ht : P.underlying kt = some .string) (b : Bool) (s : ByteArray) : (Instr.checkKey b 10000 kt (.string s)).run P w = .ok () w := by
  unfold Instr.checkKey
  simp only [Sem.run_bind, run_underlying ht, Result.andThen_ok]
  rfl
theorem run_getObj {r : Nat} {es : Array MapEntry} {clock : Nat} (hb : w.heap[r]? = some (.map es clock)) : (getObj r).run P w = .ok (.map es clock) w := by
  simp only [getObj, Sem.run, hb]
theorem run_setObj {r : Nat} {es : Array MapEntry} {clock : Nat} (hb : w.heap[r]? = some (.map es clock)) (o : Obj) : (setObj r o).run P w = .ok () (setBlock w r o) := by
  simp only [setObj, Sem.run, hb]
  rfl
/-- What a deletion leaves. -/
def delE (s : ByteArray) (es : List MapEntry) : List MapEntry :=
  match findS s es 0 with
  | some (i, _) => es.eraseIdx i
  | none => es
/-- What a store leaves: the entries and the clock. -/
def updE (s : ByteArray) (v : Value) (clock : Nat) (es : List MapEntry) : List MapEntry × Nat :=
  match findS s es 0 with
  | some (i, _) => (es.modify i fun e => { e with val := v }, clock)
  | none => (es ++ [{ key := .string s, val := v, born := clock }], clock + 1)
theorem setBlock_get (w : World) {r : Nat} {o x : Obj} (h : w.heap[r]? = some x) : (setBlock w r o).heap[r]? = some o := by
  have := (Array.getElem?_eq_some_iff.1 h).1
  simp [setBlock, this]
theorem setBlock_turn (w : World) (r : Nat) (o : Obj) : Turn r w (setBlock w r o) := ⟨rfl, rfl, rfl, by simp [setBlock], fun q hq => by simp [setBlock, Ne.symm hq]⟩
theorem run_delete_str {t kt et ty : TypeId} (ht : P.underlying t = some (.map kt et)) (hk : P.underlying kt = some .string) (s : ByteArray) {r clock : Nat} {es : Array MapEntry} (hb : w.heap[r]? = some (.map es clock)) (hs : StrKeys es.toList) :
    ∃ es' : Array MapEntry, es'.toList = delE s es.toList ∧ (Builtin.delete_ #[t, kt] ty #[.map (some r), .string s]).run P w = .ok (.tuple #[]) (setBlock w r (.map es' clock)) := by
  unfold delE
  cases hf : findS s es.toList 0 with
  | none =>
    refine ⟨es, rfl, ?_⟩
    simp only [Builtin.delete_, List.getElem?_toArray, List.getElem?_cons_zero, List.getElem?_cons_succ, Sem.run_bind, run_underlying ht, Result.andThen_ok, run_getObj hb, checkKey_str hk, findKey_str hk s hs, hf, run_setObj hb, Sem.run_pure]
  | some q =>
    obtain ⟨i, v⟩ := q
    refine ⟨es.eraseIdxIfInBounds i, ?_, ?_⟩
    · simp
    · simp only [Builtin.delete_, List.getElem?_toArray, List.getElem?_cons_zero, List.getElem?_cons_succ, Sem.run_bind, run_underlying ht, Result.andThen_ok, run_getObj hb, checkKey_str hk, findKey_str hk s hs, hf, run_setObj hb, Sem.run_pure]
theorem findS_at (s : ByteArray) : ∀ (es : List MapEntry) (i j : Nat) (v : Value), findS s es i = some (j, v) → i ≤ j ∧ ∃ e, es[j - i]? = some e ∧ keyIs s e = true ∧ e.val = v
  | [], _, _, _, h => by cases h
  | e :: es, i, j, v, h => by
    unfold findS at h
    split at h
    · rename_i hk
      cases h
      exact ⟨Nat.le_refl _, e, by simp, hk, rfl⟩
    · obtain ⟨h1, e', h2, h3, h4⟩ := findS_at s es (i + 1) j v h
      refine ⟨by omega, e', ?_, h3, h4⟩
      rw [show j - i = (j - (i + 1)) + 1 by omega, List.getElem?_cons_succ]
      exact h2
theorem run_update_str {t kt et : TypeId} (ht : P.underlying t = some (.map kt et)) (hk : P.underlying kt = some .string) (s : ByteArray) (v : Value) {r clock : Nat} {es : Array MapEntry} (hb : w.heap[r]? = some (.map es clock)) (hs : StrKeys es.toList) :
    ∃ es' : Array MapEntry, es'.toList = (updE s v clock es.toList).1 ∧ (Instr.mapUpdate t (.map (some r)) (.string s) v).run P w = .ok () (setBlock w r (.map es' (updE s v clock es.toList).2)) := by
  unfold updE
  cases hf : findS s es.toList 0 with
  | none =>
    refine ⟨es.push { key := .string s, val := v, born := clock }, by simp, ?_⟩
    simp only [Instr.mapUpdate, Sem.run_bind, run_underlying ht, Result.andThen_ok, run_getObj hb, checkKey_str hk, findKey_str hk s hs, hf, run_setObj hb]
  | some q =>
    obtain ⟨i, u⟩ := q
    obtain ⟨_, e, he, hke, _⟩ := findS_at s _ _ _ _ hf
    rw [Nat.sub_zero] at he
    obtain ⟨z, hz⟩ := hs e (List.mem_of_getElem? he)
    have hsz : z = s := by unfold keyIs at hke; rw [hz] at hke; exact ((MapKept.bytes_beq s z).1 hke).symm
    subst hsz
    have hks : (((es[i]?).map (·.key)).getD (.string z)) = .string z := by rw [← Array.getElem?_toList, he]; exact hz
    have hsb : Instr.sameBits 10000 (.string z) (.string z) = true := by simp only [Instr.sameBits]; exact (MapKept.bytes_beq z z).2 rfl
    refine ⟨es.modify i fun e => { e with key := .string z, val := v }, ?_, ?_⟩
    · rw [Array.toList_modify]
      apply List.ext_getElem?
      intro j
      rw [List.getElem?_modify, List.getElem?_modify]
      by_cases hj : i = j
      · subst hj
        rw [he]
        simp [hz]
      · simp [hj]
    · simp only [Instr.mapUpdate, Sem.run_bind, run_underlying ht, Result.andThen_ok, run_getObj hb, checkKey_str hk, findKey_str hk z hs, hf, hks, Instr.keyThatStays, hsb, if_true, Sem.run_pure, run_setObj hb]
theorem wpList_delete_str (hgd : o.guard = none) (m x : Operand) (t kt et : TypeId) (hop : o.op = .call { callee := .builtin .delete, args := #[m, x], argTypes := #[t, kt] }) (ht : P.underlying t = some (.map kt et)) (hk : P.underlying kt = some .string) {s : ByteArray} {r clock : Nat} {es : Array MapEntry}
    (hm : a.eval m = .map (some r)) (hx : a.eval x = .string s) (hb : w.heap[r]? = some (.map es clock)) (hs : StrKeys es.toList)
    (h : ∀ (w' : World) (es' : Array MapEntry), Turn r w w' → w'.heap[r]? = some (.map es' clock) → es'.toList = delE s es.toList → wpList P ops Q rest (a.put o.dst (.tuple #[])) w') : wpList P ops Q (o :: rest) a w := by
  refine wpList_plain hgd fun K hK => ?_
  obtain ⟨es', h1, h2⟩ := run_delete_str (w := w) (ty := o.type) ht hk s hb hs
  unfold Oper.wp
  simp [execOp, hop, resolve, invoke, builtin, hm, hx, h2, Result.andThen]
  exact hK _ _ (h _ es' (setBlock_turn w r _) (setBlock_get w hb) h1)
theorem wpList_update_str (hgd : o.guard = none) (m x y : Operand) (t kt et : TypeId) (hop : o.op = .mapUpdate t m x y) (ht : P.underlying t = some (.map kt et)) (hk : P.underlying kt = some .string) {s : ByteArray} {v : Value} {r clock : Nat} {es : Array MapEntry}
    (hm : a.eval m = .map (some r)) (hx : a.eval x = .string s) (hy : a.eval y = v) (hb : w.heap[r]? = some (.map es clock)) (hs : StrKeys es.toList)
    (h : ∀ (w' : World) (es' : Array MapEntry), Turn r w w' → w'.heap[r]? = some (.map es' (updE s v clock es.toList).2) → es'.toList = (updE s v clock es.toList).1 → wpList P ops Q rest (a.put o.dst undef) w') : wpList P ops Q (o :: rest) a w := by
  refine wpList_plain hgd fun K hK => ?_
  obtain ⟨es', h1, h2⟩ := run_update_str (w := w) ht hk s v hb hs
  unfold Oper.wp
  simp [execOp, hop, hm, hx, hy, h2, Result.andThen]
  exact hK _ _ (h _ es' (setBlock_turn w r _) (setBlock_get w hb) h1)
end
end
section
open Go.RowKit
def keepX (x : Nat) (e : MapEntry) : Bool :=
  match e.val with
  | .pointer (some ⟨y, 0, none⟩) => !(y == x)
  | _ => true
/-- A directory: names, and boxes of files. -/
structure DirE (es : List MapEntry) (clock : Nat) : Prop where
  nd : (es.map (·.born)).Nodup
  born : ∀ e ∈ es, e.born < clock
  key : StrKeys es
  one : es.Pairwise fun a b => a.key ≠ b.key
  val : ∀ e ∈ es, ∃ y, e.val = .pointer (some ⟨y, 0, none⟩)
theorem DirE.filter {es : List MapEntry} {clock : Nat} (h : DirE es clock) (p : MapEntry → Bool) : DirE (es.filter p) clock :=
  ⟨(List.filter_sublist.map _).nodup h.nd, fun e he => h.born e ((List.mem_filter.1 he).1), fun e he => h.key e ((List.mem_filter.1 he).1), h.one.sublist List.filter_sublist, fun e he => h.val e ((List.mem_filter.1 he).1)⟩
theorem keyIs_iff {s : ByteArray} {e : MapEntry} : keyIs s e = true ↔ e.key = .string s := by
  unfold keyIs
  split
  · rename_i z hz
    rw [hz, MapKept.bytes_beq]
    constructor
    · rintro rfl; rfl
    · intro h; cases h; rfl
  · rename_i hz
    constructor
    · intro h; cases h
    · intro h; exact absurd h (hz s)
/-- Struck by its key is struck by its stamp. -/
theorem delE_born {s : ByteArray} : ∀ {es : List MapEntry} {clock : Nat} {e : MapEntry}, DirE es clock → e ∈ es → e.key = .string s → delE s es = es.filter fun x => !(x.born == e.born)
  | [], _, _, _, he, _ => by cases he
  | x :: es, clock, e, h, he, hk => by
    have hone := List.pairwise_cons.1 h.one
    have hnd : x.born ∉ es.map (·.born) ∧ (es.map (·.born)).Nodup := by simpa using h.nd
    have hT : DirE es clock := ⟨hnd.2, fun y hy => h.born y (List.mem_cons_of_mem _ hy), fun y hy => h.key y (List.mem_cons_of_mem _ hy), hone.2, fun y hy => h.val y (List.mem_cons_of_mem _ hy)⟩
    rcases List.mem_cons.1 he with rfl | hm
    · have hf : findS s (e :: es) 0 = some (0, e.val) := by
        unfold findS
        rw [keyIs_iff.2 hk]; rfl
      unfold delE
      rw [hf]
      simp only [List.eraseIdx_cons_zero]
      rw [List.filter_cons_of_neg (by simp)]
      symm
      exact List.filter_eq_self.2 fun y hy => by
        have : y.born ≠ e.born := fun q => hnd.1 (q ▸ List.mem_map_of_mem hy)
        simpa using this
    · have hne : x.key ≠ .string s := fun q => hone.1 e hm (q.trans hk.symm)
      have hkx : keyIs s x = false := by
        cases hq : keyIs s x with
        | false => rfl
        | true => exact absurd (keyIs_iff.1 hq) hne
      have ih := delE_born hT hm hk
      have hxe : x.born ≠ e.born := fun q => hnd.1 (q ▸ List.mem_map_of_mem hm)
      rw [List.filter_cons_of_pos (by simpa using hxe), ← ih]
      have hshift : ∀ (l : List MapEntry) (i : Nat), findS s l (i + 1) = (findS s l i).map fun q => (q.1 + 1, q.2) := by
        intro l
        induction l with
        | nil => intro i; rfl
        | cons y l ih2 =>
          intro i
          unfold findS
          split
          · rfl
          · exact ih2 (i + 1)
      unfold delE
      have hf : findS s (x :: es) 0 = (findS s es 0).map fun q => (q.1 + 1, q.2) := by
        rw [← hshift]
        conv => lhs; unfold findS
        rw [hkx]; rfl
      rw [hf]
      cases findS s es 0 with
      | none => rfl
      | some q => rfl
/-- What the closure leaves of the entries: without x, and behind that a name for it. -/
def dirT (x : Nat) (nm : ByteArray) (clock : Nat) (es : List MapEntry) : List MapEntry × Nat :=
  if nm.size = 0 then (es.filter (keepX x), clock) else updE nm (.pointer (some ⟨x, 0, none⟩)) clock (es.filter (keepX x))
theorem leftOf_size_lt {es : Array MapEntry} {seen : Array Nat} {e : MapEntry} (he : e ∈ (leftOf es seen).toList) (es2 : Array MapEntry) (h : (leftOf es2 (seen.push e.born)).toList = (leftOf es (seen.push e.born)).toList) : (leftOf es2 (seen.push e.born)).size < (leftOf es seen).size := by
  have := left_shrinks es seen e he
  rw [← Array.length_toList, h, Array.length_toList]
  exact this
theorem Tryz.infoFile : (Tryz.prog.info? 142).map (fun i => i.size) = some 2 := by kernel_rfl
/-- Two boxes of files: one and the same, or not. -/
theorem eql_file {w : World} {x y : Nat} {cx cy : Array Value} {tx ty : TypeId} (hx : w.heap[x]? = some (.cells cx tx (0, 0))) (hy : w.heap[y]? = some (.cells cy ty (0, 0))) :
    (binOp .eql 140 (.pointer (some ⟨y, 0, none⟩)) (.pointer (some ⟨x, 0, none⟩))).run Tryz.prog w = .ok (.bool (y == x)) w := by
  obtain ⟨j, hj, hsz⟩ : ∃ j, Tryz.prog.info? 142 = some j ∧ j.size = 2 := by
    have h := Tryz.infoFile
    cases hq : Tryz.prog.info? 142 with
    | none => rw [hq] at h; cases h
    | some j => rw [hq] at h; exact ⟨j, rfl, by simpa using h⟩
  by_cases he : y = x
  · subst he
    rw [run_eql_ptr_same w ⟨y, 0, none⟩ Tryz.underlying140 hj]
    simp
  · rw [run_eql_ptr_other w Tryz.underlying140 hj (by omega) (a := ⟨y, 0, none⟩) (b := ⟨x, 0, none⟩) (fun e => he (by cases e; rfl)) hy hx]
    simp [he]
theorem born_same {es : List MapEntry} (hn : (es.map (·.born)).Nodup) {a b : MapEntry} (ha : a ∈ es) (hb : b ∈ es) (h : a.born = b.born) : a = b := born_inj hn ha hb h
theorem keepX_is {x y : Nat} {e : MapEntry} (h : e.val = .pointer (some ⟨y, 0, none⟩)) : keepX x e = !(y == x) := by simp [keepX, h]
/-- The entries that are there behind one more. -/
theorem cur_strike {es : List MapEntry} (hn : (es.map (·.born)).Nodup) {x : Nat} {seen : Array Nat} {e : MapEntry} (he : e ∈ es) (hk : keepX x e = false) :
    (es.filter fun z => keepX x z || !seen.contains z.born).filter (fun z => !(z.born == e.born)) = es.filter fun z => keepX x z || !(seen.push e.born).contains z.born := by
  rw [List.filter_filter]
  apply List.filter_congr
  intro z hz
  rw [contains_push]
  by_cases hb : z.born = e.born
  · obtain rfl := born_same hn hz he hb
    simp [hk]
  · have hbb : (z.born == e.born) = false := by simpa using hb
    rw [hbb]
    cases keepX x z <;> cases seen.contains z.born <;> rfl
theorem cur_keep {es : List MapEntry} (hn : (es.map (·.born)).Nodup) {x : Nat} {seen : Array Nat} {e : MapEntry} (he : e ∈ es) (hk : keepX x e = true) :
    (es.filter fun z => keepX x z || !seen.contains z.born) = es.filter fun z => keepX x z || !(seen.push e.born).contains z.born := by
  apply List.filter_congr
  intro z hz
  rw [contains_push]
  by_cases hb : z.born = e.born
  · obtain rfl := born_same hn hz he hb
    simp [hk]
  · have hbb : (z.born == e.born) = false := by simpa using hb
    rw [hbb]
    cases keepX x z <;> cases seen.contains z.born <;> rfl
theorem cur_end {es : List MapEntry} {x : Nat} {seen : Array Nat} {ec : Array MapEntry} (hec : ec.toList = es.filter fun z => keepX x z || !seen.contains z.born) (hz : leftOf ec seen = #[]) : ec.toList = es.filter (keepX x) := by
  rw [hec]
  apply List.filter_congr
  intro z hz2
  cases hk : keepX x z with
  | true => rfl
  | false =>
    cases hs : seen.contains z.born with
    | true => rfl
    | false =>
      have h1 : z ∈ ec.toList := by rw [hec, List.mem_filter]; exact ⟨hz2, by rw [hk, hs]; rfl⟩
      have h2 : z ∈ (leftOf ec seen).toList := by rw [left_list, List.mem_filter]; exact ⟨h1, by rw [hs]; rfl⟩
      rw [hz] at h2
      cases h2
theorem left_strike {ec e2 : Array MapEntry} {seen : Array Nat} {b : Nat} (h : e2.toList = ec.toList.filter fun z => !(z.born == b)) : (leftOf e2 (seen.push b)).toList = (leftOf ec (seen.push b)).toList := by
  rw [left_list, left_list, h, List.filter_filter]
  apply List.filter_congr
  intro z _
  rw [contains_push]
  cases seen.contains z.born <;> cases (z.born == b) <;> rfl
/-- What stands of the world beside the map r, up to N. -/
structure Beside (w w' : World) (r N : Nat) : Prop where
  os : w'.os = w.os
  tape : w'.tape = w.tape
  output : w'.output = w.output
  size : N < w'.heap.size
  oth : ∀ q, q < N → q ≠ r → w'.heap[q]? = w.heap[q]?
theorem Beside.turn {w w' w2 : World} {r N k : Nat} (h : Beside w w' r N) (t : Turn k w' w2) (hk : k = r ∨ N ≤ k) : Beside w w2 r N :=
  ⟨t.os.trans h.os, t.tape.trans h.tape, t.output.trans h.output, by rw [t.size]; exact h.size, fun q hq hr => (t.block q (by omega)).trans (h.oth q hq hr)⟩
theorem Beside.cell {w w' : World} {r N b : Nat} {v : Value} (h : Beside w w' r N) (hb : b < N) (hr : b ≠ r) (hc : w.cell? ⟨b, 0, none⟩ = some v) : w'.cell? ⟨b, 0, none⟩ = some v := by
  unfold World.cell? at *
  rw [h.oth b hb hr]
  exact hc
def PendPost (w : World) (r x clock : Nat) (nm : ByteArray) (es : Array MapEntry) (w' : World) : Prop :=
  (∃ es' : Array MapEntry, w'.heap[r]? = some (.map es' (dirT x nm clock es.toList).2) ∧ es'.toList = (dirT x nm clock es.toList).1) ∧ Beside w w' r w.heap.size
set_option maxHeartbeats 4000000 in
set_option maxRecDepth 100000 in
theorem pend1_any {w : World} {r clock bx bn x : Nat} {es : Array MapEntry} {nm : ByteArray} (hobj : w.heap[r]? = some (.map es clock)) (hd : DirE es.toList clock) (hx : w.cell? ⟨bx, 0, none⟩ = some (.pointer (some ⟨x, 0, none⟩))) (hn : w.cell? ⟨bn, 0, none⟩ = some (.string nm)) (hbx : bx ≠ r) (hbn : bn ≠ r)
    (hbox : ∀ y, y = x ∨ (∃ e ∈ es.toList, e.val = .pointer (some ⟨y, 0, none⟩)) → ∃ (c : Array Value) (t : TypeId), w.heap[y]? = some (.cells c t (0, 0))) :
    Calls Tryz.prog 130 #[.map (some r), .pointer (some ⟨bx, 0, none⟩), .pointer (some ⟨bn, 0, none⟩)] w fun e w' => e = .returned (.tuple #[]) ∧ PendPost w r x clock nm es w' := by
  obtain ⟨N, hN⟩ : ∃ N, N = w.heap.size := ⟨_, rfl⟩
  have hrl : r < N := by rw [hN]; exact blk_lt hobj
  have HD := Aside.mk hd
  have hi0 : (w.alloc (.mapIter (some r) clock #[] clock)).heap[N]? = some (.mapIter (some r) clock #[] clock) := by rw [hN]; exact heap_alloc_new w _
  have ho0 : ∀ q, q < N → (w.alloc (.mapIter (some r) clock #[] clock)).heap[q]? = w.heap[q]? := fun q hq => heap_alloc_old w _ (by omega)
  have HI0 : Aside (es.toList = es.toList.filter (fun e => keepX x e || !(#[] : Array Nat).contains e.born) ∧ (w.alloc (.mapIter (some r) clock #[] clock)).heap[r]? = some (.map es clock) ∧ (∃ c0, clock ≤ c0 ∧ (w.alloc (.mapIter (some r) clock #[] clock)).heap[N]? = some (.mapIter (some r) clock #[] c0)) ∧ Beside w (w.alloc (.mapIter (some r) clock #[] clock)) r N) :=
    ⟨by symm; exact List.filter_eq_self.2 fun y _ => by simp, (ho0 r hrl).trans hobj, ⟨clock, Nat.le_refl _, hi0⟩, ⟨rfl, rfl, rfl, by rw [hN]; simp, fun q hq _ => ho0 q hq⟩⟩
  have hbxl : bx < N := by rw [hN]; exact World.block_lt_of_cell? w _ hx
  have hbnl : bn < N := by rw [hN]; exact World.block_lt_of_cell? w _ hn
  have HX := Aside.mk (And.intro hx (And.intro hbxl hbx))
  have HNm := Aside.mk (And.intro hn (And.intro hbnl hbn))
  have HNe := Aside.mk hN
  have HRl := Aside.mk hrl
  have HBox := Aside.mk hbox
  have HO := Aside.mk hobj
  clear hd hi0 ho0 hbxl hbnl hx hn hbx hbn hN hrl hbox
  go_enter Tryz.func130, Tryz.ntmps130
  go_wp2_with (at_range; go_must (refine wpList_range_raw rfl _ 121 _ _ rfl Tryz.underlying121 rfl hobj ?_))
  rw [← HNe.out]
  generalize w.alloc (.mapIter (some r) clock #[] clock) = w0 at *
  clear hobj
  try go_frame
  go_loopg [4] (leftOf es #[]).size (fun kq _v4 wr => ∃ (seen : Array Nat) (ec : Array MapEntry), Aside ((leftOf ec seen).size = kq) ∧ Aside (ec.toList = es.toList.filter (fun e => keepX x e || !seen.contains e.born) ∧ wr.heap[r]? = some (.map ec clock) ∧ (∃ c0, clock ≤ c0 ∧ wr.heap[N]? = some (.mapIter (some r) clock seen c0)) ∧ Beside w wr r N))
  case atStart => exact ⟨#[], es, ⟨rfl⟩, HI0⟩
  case round =>
    clear HI0
    obtain ⟨seen, ec, HK, HV⟩ := hrel
    obtain ⟨hec, hob, ⟨c0, hc0, hit⟩, hbs⟩ := HV.out
    have hdc : DirE ec.toList clock := by rw [hec]; exact HD.out.filter _
    have HDc := Aside.mk hdc
    have HEc := Aside.mk hec
    have HC := Aside.mk hc0
    have HBs := Aside.mk hbs
    have kx := hbs.cell HX.out.2.1 HX.out.2.2 HX.out.1
    have kn := hbs.cell HNm.out.2.1 HNm.out.2.2 HNm.out.1
    clear hdc hec hc0 hbs HV
    go_wp2_with (at_next; go_must (refine wpList_next_raw rfl _ rfl rfl hit hob HDc.out.born HC.out HDc.out.nd ?_ ?_))
    · intro hz
      have HEnd := Aside.mk (cur_end HEc.out hz)
      have hsk : StrKeys ec.toList := HDc.out.key
      clear hz hit HK HEc
      by_cases hnm : nm.size = 0
      · have hnl : nm.toList = [] := by rw [ByteArray.toList_eq]; exact List.eq_nil_of_length_eq_zero (by simpa using hnm)
        have HP : Aside (PendPost w r x clock nm es wr) := ⟨⟨ec, by unfold dirT; rw [if_pos hnm]; exact hob, by unfold dirT; rw [if_pos hnm]; exact HEnd.out⟩, by rw [← HNe.out]; exact HBs.out⟩
        clear hnm
        go_wp2
        exact ⟨rfl, .tuple #[], by simp [results, Tryz.results130, go_sem], rfl, HP.out⟩
      · have hnl : nm.toList.isEmpty = false := by rw [ByteArray.toList_eq]; cases hq : nm.data.toList with
          | nil => exact absurd (by have := congrArg List.length hq; simpa using this) hnm
          | cons _ _ => rfl
        have HNn := Aside.mk hnm
        have HSk := Aside.mk hsk
        have HOb := Aside.mk hob
        clear hnm hsk
        go_wp2_with (at_mapUpdate; go_must (refine wpList_update_str rfl _ _ _ 121 9 _ rfl Tryz.underlying121 Tryz.underlying9 rfl rfl rfl hob HSk.out ?_; intro w2 es2 hT2 hob2 hes2))
        have HP : Aside (PendPost w r x clock nm es w2) := ⟨⟨es2, by unfold dirT; rw [if_neg HNn.out, ← HEnd.out]; exact hob2, by unfold dirT; rw [if_neg HNn.out, ← HEnd.out]; exact hes2⟩, by rw [← HNe.out]; exact HBs.out.turn hT2 (.inl rfl)⟩
        clear hT2 hob2 hes2
        go_wp2
        exact ⟨rfl, .tuple #[], by simp [results, Tryz.results130, go_sem], rfl, HP.out⟩
    · intro e he0 w1 hT h1 hen
      have he : e ∈ (leftOf ec seen).toList := Array.mem_toList_iff.2 he0
      clear he0
      have hmem := (mem_left he).1
      have hmes : e ∈ es.toList := by rw [HEc.out] at hmem; exact (List.mem_filter.1 hmem).1
      obtain ⟨s, hkey⟩ := HDc.out.key e hmem
      obtain ⟨y, hval⟩ := HDc.out.val e hmem
      have hb1 := HBs.out.turn hT (.inr (Nat.le_refl _))
      have kx1 := hb1.cell HX.out.2.1 HX.out.2.2 HX.out.1
      have kn1 := hb1.cell HNm.out.2.1 HNm.out.2.2 HNm.out.1
      have hob1 : w1.heap[r]? = some (.map ec clock) := (hT.block r (by have := HRl.out; omega)).trans hob
      have hbk : ∀ q : Nat, (∃ (c : Array Value) (t : TypeId), w.heap[q]? = some (.cells c t (0, 0))) → ∃ (c : Array Value) (t : TypeId), w1.heap[q]? = some (.cells c t (0, 0)) := fun q ⟨c, t, h⟩ => by
        refine ⟨c, t, (hb1.oth q (by rw [HNe.out]; exact blk_lt h) fun e => ?_).trans h⟩
        rw [e, HO.out] at h
        cases h
      obtain ⟨cx, tx, hx1⟩ := hbk x (HBox.out x (.inl rfl))
      obtain ⟨cy, ty, hy1⟩ := hbk y (HBox.out y (.inr ⟨e, hmes, hval⟩))
      have heq := eql_file hx1 hy1
      have hkp := keepX_is (x := x) hval
      have HB1 := Aside.mk hb1
      have HI1 := Aside.mk h1
      have HE := Aside.mk (And.intro he hmes)
      have HKl := Aside.mk (left_shrinks ec seen e he)
      have HSk : Aside (StrKeys ec.toList) := ⟨HDc.out.key⟩
      have HDel := Aside.mk (delE_born HDc.out hmem hkey)
      rw [hkey, hval] at hen ⊢
      obtain ⟨bb, hbb⟩ : ∃ bb, (y == x) = bb := ⟨_, rfl⟩
      rw [hbb] at heq hkp
      have HKp := Aside.mk hkp
      clear hmem hmes hkey hval hb1 hbk hx1 hy1 hT h1 he hkp hbb hit hob kx kn
      cases bb with
      | true =>
        go_wp2_with (at_delete; go_must (refine wpList_delete_str rfl _ _ 121 9 _ rfl Tryz.underlying121 Tryz.underlying9 rfl rfl hob1 HSk.out ?_; intro w2 es2 hT2 hob2 hes2))
        rw [HDel.out] at hes2
        have HV2 : Aside (es2.toList = es.toList.filter (fun z => keepX x z || !(seen.push e.born).contains z.born) ∧ w2.heap[r]? = some (.map es2 clock) ∧ (∃ c0, clock ≤ c0 ∧ w2.heap[N]? = some (.mapIter (some r) clock (seen.push e.born) c0)) ∧ Beside w w2 r N) :=
          ⟨by rw [hes2, HEc.out]; exact cur_strike HD.out.nd HE.out.2 HKp.out, hob2, ⟨clock, Nat.le_refl _, (hT2.block N (by have := HRl.out; omega)).trans HI1.out⟩, HB1.out.turn hT2 (.inl rfl)⟩
        have HM2 : Aside ((leftOf es2 (seen.push e.born)).size < gk) := ⟨by rw [← HK.out]; exact leftOf_size_lt HE.out.1 es2 (left_strike hes2)⟩
        clear hT2 hob2 hes2
        try go_frame
        go_roundg (leftOf es2 (seen.push e.born)).size
        case measure => exact HM2.out
        case rel => exact ⟨seen.push e.born, es2, ⟨rfl⟩, HV2⟩
      | false =>
        have HV2 : Aside (ec.toList = es.toList.filter (fun z => keepX x z || !(seen.push e.born).contains z.born) ∧ w1.heap[r]? = some (.map ec clock) ∧ (∃ c0, clock ≤ c0 ∧ w1.heap[N]? = some (.mapIter (some r) clock (seen.push e.born) c0)) ∧ Beside w w1 r N) :=
          ⟨by rw [HEc.out]; exact cur_keep HD.out.nd HE.out.2 HKp.out, hob1, ⟨clock, Nat.le_refl _, HI1.out⟩, HB1.out⟩
        have HM2 : Aside ((leftOf ec (seen.push e.born)).size < gk) := ⟨by rw [← HK.out]; exact HKl.out⟩
        go_wp2
        go_roundg (leftOf ec (seen.push e.born)).size
        case measure => exact HM2.out
        case rel => exact ⟨seen.push e.born, ec, ⟨rfl⟩, HV2⟩
end
section
open Go.RowKit
section
open Go.ChangeMaps (setBlock)
variable {w : World} {ops : Array Oper} {rest : List Oper} {o : Oper} {a : Act} {Q : Exit → Act → World → Prop}
/-- The keys are boxes, of which x is none. -/
def BoxKeys (w : World) (x : Nat) (es : List MapEntry) : Prop := ∀ e ∈ es, ∃ y, e.key = .pointer (some ⟨y, 0, none⟩) ∧ y ≠ x ∧ ∃ (c : Array Value) (t : TypeId), w.heap[y]? = some (.cells c t (0, 0))
theorem equal_file {w : World} {x y : Nat} {cx cy : Array Value} {tx ty : TypeId} (hx : w.heap[x]? = some (.cells cx tx (0, 0))) (hy : w.heap[y]? = some (.cells cy ty (0, 0))) (hne : y ≠ x) :
    (Op.equal 140 (.pointer (some ⟨x, 0, none⟩)) (.pointer (some ⟨y, 0, none⟩))).run Tryz.prog w = .ok false w := by
  obtain ⟨j, hj, hsz⟩ : ∃ j, Tryz.prog.info? 142 = some j ∧ j.size = 2 := by
    have h := Tryz.infoFile
    cases hq : Tryz.prog.info? 142 with
    | none => rw [hq] at h; cases h
    | some j => rw [hq] at h; exact ⟨j, rfl, by simpa using h⟩
  have hs : j.size ≠ 0 := by omega
  have h : ∀ d : Nat, (Op.equalIn (d + 1) 140 (.pointer (some ⟨x, 0, none⟩)) (.pointer (some ⟨y, 0, none⟩))).run Tryz.prog w = .ok false w := fun d => by
    simp [Op.equalIn, run_underlying Tryz.underlying140, sizeOf, typeInfo, hj, hs, run_sameAddr_other w (a := ⟨x, 0, none⟩) (b := ⟨y, 0, none⟩) (fun e => hne (by cases e; rfl)) hx hy]
  simp [Op.equal, Op.maxDepth, h 9999]
theorem findAsking_box {x : Nat} {cx : Array Value} {tx : TypeId} (hx : w.heap[x]? = some (.cells cx tx (0, 0))) : ∀ (es : List MapEntry) (i : Nat), BoxKeys w x es → (Instr.findAsking 140 (.pointer (some ⟨x, 0, none⟩)) es i).run Tryz.prog w = .ok none w
  | [], _, _ => rfl
  | e :: es, i, h => by
    obtain ⟨y, hk, hne, cy, ty, hy⟩ := h e List.mem_cons_self
    unfold Instr.findAsking
    simp only [Sem.run_bind, hk, equal_file hx hy hne, Result.andThen_ok, Bool.false_eq_true, if_false]
    exact findAsking_box hx es (i + 1) fun z hz => h z (List.mem_cons_of_mem _ hz)
theorem findKey_box {x : Nat} {cx : Array Value} {tx : TypeId} (hx : w.heap[x]? = some (.cells cx tx (0, 0))) {es : List MapEntry} (h : BoxKeys w x es) : (Instr.findKey 140 (.pointer (some ⟨x, 0, none⟩)) es).run Tryz.prog w = .ok none w := by
  simp only [Instr.findKey, Sem.run_bind, run_underlying Tryz.underlying140, Result.andThen_ok]
  cases es with
  | nil => rfl
  | cons e es =>
    obtain ⟨y, hk, _⟩ := h e List.mem_cons_self
    have : Instr.findNow (.pointer 142) (.pointer (some ⟨x, 0, none⟩)) (e :: es) 0 = none := by
      unfold Instr.findNow
      rw [hk]; rfl
    rw [this]
    exact findAsking_box hx (e :: es) 0 h
theorem checkKey_box {w : World} (b : Bool) (x : Nat) : (Instr.checkKey b 10000 140 (.pointer (some ⟨x, 0, none⟩))).run Tryz.prog w = .ok () w := by
  unfold Instr.checkKey
  simp only [Sem.run_bind, run_underlying Tryz.underlying140, Result.andThen_ok]
  rfl
theorem run_update_box {t : TypeId} {et : TypeId} (ht : Tryz.prog.underlying t = some (.map 140 et)) {x : Nat} {cx : Array Value} {tx : TypeId} (hx : w.heap[x]? = some (.cells cx tx (0, 0))) (v : Value) {r clock : Nat} {es : Array MapEntry} (hb : w.heap[r]? = some (.map es clock)) (hs : BoxKeys w x es.toList) :
    (Instr.mapUpdate t (.map (some r)) (.pointer (some ⟨x, 0, none⟩)) v).run Tryz.prog w = .ok () (setBlock w r (.map (es.push { key := .pointer (some ⟨x, 0, none⟩), val := v, born := clock }) (clock + 1))) := by
  simp only [Instr.mapUpdate, Sem.run_bind, run_underlying ht, Result.andThen_ok, run_getObj hb, checkKey_box, findKey_box hx hs, run_setObj hb]
theorem wpList_update_box (hgd : o.guard = none) (m k y : Operand) (t et : TypeId) (hop : o.op = .mapUpdate t m k y) (ht : Tryz.prog.underlying t = some (.map 140 et)) {x : Nat} {cx : Array Value} {tx : TypeId} {v : Value} {r clock : Nat} {es : Array MapEntry}
    (hm : a.eval m = .map (some r)) (hk : a.eval k = .pointer (some ⟨x, 0, none⟩)) (hy : a.eval y = v) (hb : w.heap[r]? = some (.map es clock)) (hx : w.heap[x]? = some (.cells cx tx (0, 0))) (hs : BoxKeys w x es.toList)
    (h : ∀ (w' : World), Turn r w w' → w'.heap[r]? = some (.map (es.push { key := .pointer (some ⟨x, 0, none⟩), val := v, born := clock }) (clock + 1)) → wpList Tryz.prog ops Q rest (a.put o.dst undef) w') : wpList Tryz.prog ops Q (o :: rest) a w := by
  refine wpList_plain hgd fun K hK => ?_
  have h2 := run_update_box (w := w) ht hx v hb hs
  unfold Oper.wp
  simp [execOp, hop, hm, hk, hy, h2, Result.andThen]
  exact hK _ _ (h _ (setBlock_turn w r _) (setBlock_get w hb))
end
end
section
open Go.RowKit
theorem run_clone {w : World} {t r clock : Nat} {es : Array MapEntry} (hobj : w.heap[r]? = some (.map es clock)) : (callFunc 166 #[.iface t (.map (some r))]).run Tryz.prog w = .ok (.value (.iface t (.map (some w.heap.size)))) (w.alloc (.map es clock)) := by
  have hd : Extern.MapsClone.clone #[.iface t (.map (some r))] = (getObj r >>= fun o => match o with
    | .map entries clock => (newObj (.map entries clock) >>= fun n => pure (.iface t (.map (some n))))
    | _ => stuck "maps.clone: a map expected") := rfl
  rw [run_callFunc_extern Tryz.func166 (e := Extern.MapsClone.clone) (by kernel_rfl) (by kernel_rfl) (by kernel_rfl) (by kernel_rfl), hd]
  simp only [Sem.run_bind, run_getObj hobj, Result.andThen_ok]
  rfl
theorem eql_nilmap {w : World} {r : Nat} : (binOp .eql 121 (.map (some r)) (.map none)).run Tryz.prog w = .ok (.bool false) w := by
  have h : ∀ d : Nat, (Op.equalIn (d + 1) 121 (.map (some r)) (.map none)).run Tryz.prog w = .ok false w := fun d => by
    simp [Op.equalIn, run_underlying Tryz.underlying121]
  simp only [binOp]
  simp [Op.equal, Op.maxDepth, h 9999]
theorem assert_dir {w : World} {r : Nat} : (Instr.typeAssert (.iface 121 (.map (some r))) 20 121 false).run Tryz.prog w = .ok (.map (some r)) w := by
  simp [Instr.typeAssert, run_underlying Tryz.underlying121]
set_option maxHeartbeats 4000000 in
set_option maxRecDepth 100000 in
theorem clone_any {w : World} {r clock : Nat} {es : Array MapEntry} (hobj : w.heap[r]? = some (.map es clock)) :
    Calls Tryz.prog 133 #[.map (some r)] w fun e w' => e = .returned (.map (some w.heap.size)) ∧ w' = w.alloc (.map es clock) := by
  have hx := run_clone (t := 121) hobj
  have hq := eql_nilmap (w := w) (r := r)
  have ha := assert_dir (w := w.alloc (.map es clock)) (r := w.heap.size)
  clear hobj
  go_enter Tryz.func133, Tryz.ntmps133
  go_wp2
  go_ret
  exact ⟨rfl, rfl⟩
theorem wpList_makeMap {P : Program} {w : World} {ops : Array Oper} {rest : List Oper} {o : Oper} {a : Act} {Q : Exit → Act → World → Prop} (hgd : o.guard = none) (t : TypeId) (hop : o.op = .makeMap t none)
    (h : wpList P ops Q rest (a.put o.dst (.map (some w.heap.size))) (w.alloc (.map #[] 0))) : wpList P ops Q (o :: rest) a w := by
  refine wpList_plain hgd fun K hK => ?_
  unfold Oper.wp
  simp [execOp, hop, run_makeMap, Result.andThen]
  exact hK _ _ h
/-- The box settled: three cells. -/
def fsBox (N : Nat) (c : Array Value) : Array Value := ((c.setIfInBounds 2 (.map (some N))).setIfInBounds 3 (.slice none 0 0)).setIfInBounds 4 (.map (some (N + 1)))
theorem settle_mid {w9 : World} {f N : Nat} {c : Array Value} {t : TypeId} (hb : w9.heap[f]? = some (.cells c t (0, 0))) (hn : w9.heap.size = N + 1) :
    ∃ W, W = ((w9.setCell ⟨f, 2, none⟩ (.map (some N))).setCell ⟨f, 3, none⟩ (.slice none 0 0)).alloc (.map #[] 0) ∧ W.heap[f]? = some (.cells ((c.setIfInBounds 2 (.map (some N))).setIfInBounds 3 (.slice none 0 0)) t (0, 0)) ∧ W.heap[N + 1]? = some (.map #[] 0) ∧ W.heap.size = N + 2 ∧
      (∀ q, q < N + 1 → q ≠ f → W.heap[q]? = w9.heap[q]?) ∧ W.os = w9.os ∧ W.tape = w9.tape ∧ W.output = w9.output := by
  have hfl : f < N + 1 := by rw [← hn]; exact blk_lt hb
  have h1 := Lib.heap_setCell_same (i := 2) hb (.map (some N))
  have h2 := Lib.heap_setCell_same (i := 3) h1 (.slice none 0 0)
  have hs : ((w9.setCell ⟨f, 2, none⟩ (.map (some N))).setCell ⟨f, 3, none⟩ (.slice none 0 0)).heap.size = N + 1 := by simp [World.setCell, hn]
  refine ⟨_, rfl, ?_, ?_, ?_, ?_, rfl, rfl, rfl⟩
  · rw [heap_alloc_old _ _ (by rw [hs]; exact hfl), h2]
  · rw [← hs]; exact heap_alloc_new _ _
  · simp [hs]
  · intro q hq hf
    rw [heap_alloc_old _ _ (by rw [hs]; exact hq), Below.heap_setCell _ _ _ _ hf, Below.heap_setCell _ _ _ _ hf]
/-- What stands beside the box f, up to N. -/
structure Settle (w w' : World) (f r clock N : Nat) (es : Array MapEntry) (c : Array Value) (t : TypeId) (hs : Array MapEntry) : Prop where
  os : w'.os = w.os
  tape : w'.tape = w.tape
  output : w'.output = w.output
  size : N + 1 < w'.heap.size
  oth : ∀ q, q < N → q ≠ f → w'.heap[q]? = w.heap[q]?
  box : w'.heap[f]? = some (.cells (fsBox N c) t (0, 0))
  last : w'.heap[N]? = some (.map es clock)
  held : w'.heap[N + 1]? = some (.map hs hs.size)
  val : ∀ e ∈ hs.toList, e.val = .bool true ∧ e.born < hs.size
  nd : (hs.toList.map (·.born)).Nodup
structure SetI (w w' : World) (f r clock N : Nat) (es : Array MapEntry) (c : Array Value) (t : TypeId) (hs : Array MapEntry) (seen : Array Nat) : Prop where
  st : Settle w w' f r clock N es c t hs
  ob : w'.heap[r]? = some (.map es clock)
  it : ∃ c0, clock ≤ c0 ∧ w'.heap[N + 2]? = some (.mapIter (some r) clock seen c0)
  pm : (hs.toList.map (·.key)).Perm ((es.toList.filter fun z => seen.contains z.born).map (·.val))
theorem born_snoc {es : Array MapEntry} {clock : Nat} {k v : Value} (hn : (es.toList.map (·.born)).Nodup) (hb : ∀ e ∈ es.toList, e.born < clock) : ((es.push { key := k, val := v, born := clock }).toList.map (·.born)).Nodup := by
  rw [Array.toList_push, List.map_append, List.nodup_append]
  refine ⟨hn, by simp, fun a ha b hb2 => ?_⟩
  obtain ⟨e, he, rfl⟩ := List.mem_map.1 ha
  have := hb e he
  simp at hb2
  omega
theorem settle_start {w w9 W : World} {f r clock N : Nat} {es : Array MapEntry} {c : Array Value} {t : TypeId} (hN : N = w.heap.size) (hfl : f < N) (hrl : r < N) (hobj : w.heap[r]? = some (.map es clock)) (hne : r ≠ f) (hw9 : w9 = w.alloc (.map es clock))
    (hm : W.heap[f]? = some (.cells ((c.setIfInBounds 2 (.map (some N))).setIfInBounds 3 (.slice none 0 0)) t (0, 0)) ∧ W.heap[N + 1]? = some (.map #[] 0) ∧ W.heap.size = N + 2 ∧ (∀ q, q < N + 1 → q ≠ f → W.heap[q]? = w9.heap[q]?) ∧ W.os = w9.os ∧ W.tape = w9.tape ∧ W.output = w9.output) :
    ∃ W2, W2 = W.setCell ⟨f, 4, none⟩ (.map (some (N + 1))) ∧ Settle w W2 f r clock N es c t #[] ∧ W2.heap[r]? = some (.map es clock) ∧ W2.heap.size = N + 2 := by
  obtain ⟨kb, km, ks, ko, kos, kt, ku⟩ := hm
  have hold : ∀ q, q < N → q ≠ f → (W.setCell ⟨f, 4, none⟩ (.map (some (N + 1)))).heap[q]? = w.heap[q]? := fun q hq hf => by
    rw [Below.heap_setCell _ _ _ _ hf, ko q (by omega) hf, hw9, heap_alloc_old _ _ (by omega)]
  refine ⟨_, rfl, ⟨by rw [show (W.setCell ⟨f, 4, none⟩ (.map (some (N + 1)))).os = W.os from rfl, kos, hw9]; rfl, by rw [show (W.setCell ⟨f, 4, none⟩ (.map (some (N + 1)))).tape = W.tape from rfl, kt, hw9]; rfl,
    by rw [show (W.setCell ⟨f, 4, none⟩ (.map (some (N + 1)))).output = W.output from rfl, ku, hw9]; rfl, by simp [World.setCell, ks], hold, ?_, ?_, ?_, by simp, by simp⟩, (hold r hrl hne).trans hobj, by simp [World.setCell, ks]⟩
  · rw [Lib.heap_setCell_same (i := 4) kb]; rfl
  · rw [Below.heap_setCell _ _ _ _ (show N ≠ f by omega), ko N (by omega) (by omega), hw9, hN]
    exact heap_alloc_new _ _
  · rw [Below.heap_setCell _ _ _ _ (show N + 1 ≠ f by omega), km]; rfl
theorem Settle.turn {w w1 w2 : World} {f r clock N k : Nat} {es hs : Array MapEntry} {c : Array Value} {t : TypeId} (h : Settle w w1 f r clock N es c t hs) (tn : Turn k w1 w2) (hk : N + 2 ≤ k) (hf : f < N) : Settle w w2 f r clock N es c t hs :=
  ⟨tn.os.trans h.os, tn.tape.trans h.tape, tn.output.trans h.output, by rw [tn.size]; exact h.size, fun q hq hr => (tn.block q (by omega)).trans (h.oth q hq hr), (tn.block f (by omega)).trans h.box, (tn.block N (by omega)).trans h.last, (tn.block (N + 1) (by omega)).trans h.held, h.val, h.nd⟩
theorem Settle.add {w w1 w2 : World} {f r clock N : Nat} {es hs : Array MapEntry} {c : Array Value} {t : TypeId} {k : Value} (h : Settle w w1 f r clock N es c t hs) (tn : Turn (N + 1) w1 w2) (hf : f < N) (ho : w2.heap[N + 1]? = some (.map (hs.push { key := k, val := .bool true, born := hs.size }) (hs.size + 1))) :
    Settle w w2 f r clock N es c t (hs.push { key := k, val := .bool true, born := hs.size }) :=
  ⟨tn.os.trans h.os, tn.tape.trans h.tape, tn.output.trans h.output, by rw [tn.size]; exact h.size, fun q hq hr => (tn.block q (by omega)).trans (h.oth q hq hr), (tn.block f (by omega)).trans h.box, (tn.block N (by omega)).trans h.last, by rw [ho]; simp, fun e he => by
    rw [Array.toList_push, List.mem_append, List.mem_singleton] at he
    rcases he with he | rfl
    · have := h.val e he; exact ⟨this.1, by simp; omega⟩
    · simp, born_snoc h.nd fun e he => (h.val e he).2⟩
/-- The files whose names were seen, and one more. -/
theorem seen_perm {es : List MapEntry} (hn : (es.map (·.born)).Nodup) {seen : Array Nat} {e : MapEntry} (he : e ∈ es) (hs : seen.contains e.born = false) :
    ((es.filter fun z => (seen.push e.born).contains z.born).map (·.val)).Perm (((es.filter fun z => seen.contains z.born).map (·.val)) ++ [e.val]) := by
  induction es with
  | nil => cases he
  | cons x xs ih =>
    simp only [List.map_cons, List.nodup_cons] at hn
    rcases List.mem_cons.1 he with rfl | hm
    · have h1 : xs.filter (fun z => (seen.push e.born).contains z.born) = xs.filter fun z => seen.contains z.born := List.filter_congr fun z hz => by
        rw [contains_push]
        have : z.born ≠ e.born := fun q => hn.1 (q ▸ List.mem_map_of_mem hz)
        simp [this]
      rw [List.filter_cons_of_pos (by rw [contains_push]; simp), List.filter_cons_of_neg (by rw [hs]; simp), h1, List.map_cons]
      exact (List.perm_append_singleton _ _).symm
    · have hne : x.born ≠ e.born := fun q => hn.1 (q ▸ List.mem_map_of_mem hm)
      have hc : (seen.push e.born).contains x.born = seen.contains x.born := by rw [contains_push]; simp [hne]
      cases hx : seen.contains x.born with
      | true =>
        rw [List.filter_cons_of_pos (by rw [hc, hx]), List.filter_cons_of_pos (p := fun z : MapEntry => seen.contains z.born) hx, List.map_cons, List.map_cons, List.cons_append]
        exact (ih hn.2 hm).cons _
      | false =>
        rw [List.filter_cons_of_neg (by rw [hc, hx]; simp), List.filter_cons_of_neg (by rw [hx]; simp)]
        exact ih hn.2 hm
theorem seen_none (es : List MapEntry) : (es.filter fun z => (#[] : Array Nat).contains z.born) = [] := List.filter_eq_nil_iff.2 fun z _ => by simp
theorem seen_all {es : Array MapEntry} {seen : Array Nat} (h : leftOf es seen = #[]) : (es.toList.filter fun z => seen.contains z.born) = es.toList := List.filter_eq_self.2 fun z hz => by
  cases hs : seen.contains z.born with
  | true => rfl
  | false =>
    have h2 : z ∈ (leftOf es seen).toList := by rw [left_list, List.mem_filter]; exact ⟨hz, by rw [hs]; rfl⟩
    rw [h] at h2
    cases h2
theorem map_inj {α β : Type} {f : α → β} : ∀ {l : List α} {a b : α}, (l.map f).Nodup → a ∈ l → b ∈ l → f a = f b → a = b
  | x :: l, a, b, hn, ha, hb, h => by
    simp only [List.map_cons, List.nodup_cons] at hn
    rcases List.mem_cons.1 ha with rfl | ha
    · rcases List.mem_cons.1 hb with rfl | hb
      · rfl
      · exact absurd (h ▸ List.mem_map_of_mem hb) hn.1
    · rcases List.mem_cons.1 hb with hb | hb
      · subst hb
        exact absurd (List.mem_map.2 ⟨a, ‹a ∈ l›, h⟩) hn.1
      · exact map_inj hn.2 ha hb h
/-- A file not seen is none of those that were. -/
theorem seen_other {es : List MapEntry} (_ : (es.map (·.born)).Nodup) (hv : (es.map (·.val)).Nodup) {seen : Array Nat} {e : MapEntry} (he : e ∈ es) (hs : seen.contains e.born = false) : e.val ∉ (es.filter fun z => seen.contains z.born).map (·.val) := fun h => by
  obtain ⟨z, hz, hzv⟩ := List.mem_map.1 h
  obtain ⟨hz1, hz2⟩ := List.mem_filter.1 hz
  have : z = e := map_inj hv hz1 he hzv
  rw [this, hs] at hz2
  cases hz2
theorem fs_cell {w : World} {f k : Nat} {c : Array Value} {t : TypeId} {v : Value} (h : w.heap[f]? = some (.cells c t (0, 0))) (hv : c[k]? = some v) : w.cell? ⟨f, k, none⟩ = some v := by simp [World.cell?, h, hv]
theorem fs_some {w : World} {f k : Nat} {c : Array Value} {t : TypeId} (h : w.heap[f]? = some (.cells c t (0, 0))) (hk : k < c.size) : ∃ v, w.cell? ⟨f, k, none⟩ = some v := ⟨c[k], fs_cell h (Array.getElem?_eq_getElem hk)⟩
theorem box_1 (c : Array Value) (u v : Value) : ((c.setIfInBounds 2 u).setIfInBounds 3 v)[1]? = c[1]? := by simp
theorem box_4 {c : Array Value} {u v : Value} (h : 5 ≤ c.size) : 4 < ((c.setIfInBounds 2 u).setIfInBounds 3 v).size := by simp; omega
theorem fs_free {w : World} {f : Nat} {c : Array Value} {t : TypeId} (k : Nat) (h : w.heap[f]? = some (.cells c t (0, 0))) : w.frozen? ⟨f, k, none⟩ = false := by simp [World.frozen?, h]
set_option maxHeartbeats 4000000 in
set_option maxRecDepth 100000 in
theorem settle_any {w : World} {f r clock : Nat} {es : Array MapEntry} {c : Array Value} {t : TypeId} (hbox : w.heap[f]? = some (.cells c t (0, 0))) (hcr : c[1]? = some (.map (some r))) (hsz : 5 ≤ c.size) (hobj : w.heap[r]? = some (.map es clock)) (hd : DirE es.toList clock) (hone : (es.toList.map (·.val)).Nodup)
    (hbx : ∀ e ∈ es.toList, ∀ y, e.val = .pointer (some ⟨y, 0, none⟩) → ∃ (c : Array Value) (t : TypeId), w.heap[y]? = some (.cells c t (0, 0)) ∧ y ≠ f) :
    Calls Tryz.prog 93 #[.pointer (some ⟨f, 0, none⟩)] w fun e w' => e = .returned (.tuple #[]) ∧ ∃ hs : Array MapEntry, Settle w w' f r clock w.heap.size es c t hs ∧ (hs.toList.map (·.key)).Perm (es.toList.map (·.val)) := by
  obtain ⟨N, hN⟩ : ∃ N, N = w.heap.size := ⟨_, rfl⟩
  have hrl : r < N := by rw [hN]; exact blk_lt hobj
  have hfl : f < N := by rw [hN]; exact blk_lt hbox
  have hc1 := fs_cell (k := 1) hbox hcr
  have HCr := Aside.mk (And.intro hcr hsz)
  have HB := Aside.mk hbox
  have HRf : Aside (r ≠ f) := ⟨fun e => by rw [e, hbox] at hobj; cases hobj⟩
  have HO := Aside.mk hobj
  have HD := Aside.mk (And.intro hd hone)
  have HX := Aside.mk hbx
  have hcl := clone_any hobj
  rw [← hN] at hcl
  have HNe := Aside.mk hN
  have HLt := Aside.mk (And.intro hrl hfl)
  clear hobj hd hone hbx hN hrl hfl hcr hsz
  go_enter Tryz.func93, Tryz.ntmps93
  go_wp2_with (first
    | (at_range; obtain ⟨W2, hW2, hst, hob2, hsz2⟩ := settle_start (es := es) HNe.out HLt.out.2 HLt.out.1 HO.out HRf.out HW.out HM.out; rw [← hW2]; clear hW2; refine wpList_range_raw rfl _ 121 _ _ rfl Tryz.underlying121 rfl hob2 ?_; rw [hsz2]; have HS0 := Aside.mk (And.intro hst (And.intro hob2 hsz2)); clear hst hob2 hsz2 ks)
    | (refine wpList_makeMap rfl _ rfl ?_; obtain ⟨W, hW, kb, km, ks, ko, kos, kt, ku⟩ := settle_mid HB9.out hn9; rw [← hW]; have HM := Aside.mk (And.intro kb (And.intro km (And.intro ks (And.intro ko (And.intro kos (And.intro kt ku)))))); have k1 := fs_cell (k := 1) kb ((box_1 _ _ _).trans HCr.out.1); obtain ⟨_, k4⟩ := fs_some (k := 4) kb (box_4 HCr.out.2); have f4 := fs_free 4 kb; clear hW kb km ko kos kt ku HB9)
    | (go_at_call 133; refine hcl.mono ?_; rintro e w9 ⟨rfl, hw9⟩; have hb9 := heap_alloc_old w (.map es clock) (by rw [← HNe.out]; exact HLt.out.2); rw [hbox, ← hw9] at hb9; have hn9 : w9.heap.size = N + 1 := (by rw [hw9, HNe.out]; simp); have HW := Aside.mk hw9; have HB9 := Aside.mk hb9; have k1 := fs_cell (k := 1) hb9 HCr.out.1; obtain ⟨_, k2⟩ := fs_some (k := 2) hb9 (by have := HCr.out.2; omega); obtain ⟨_, k3⟩ := fs_some (k := 3) hb9 (by have := HCr.out.2; omega); obtain ⟨_, k4⟩ := fs_some (k := 4) hb9 (by have := HCr.out.2; omega); have f2 := fs_free 2 hb9; have f3 := fs_free 3 hb9; have f4 := fs_free 4 hb9; clear hw9 hb9 hbox hc1 hcl))
  have hsz2 := HS0.out.2.2
  have ha0 : (W2.alloc (.mapIter (some r) clock #[] clock)).heap[N + 2]? = some (.mapIter (some r) clock #[] clock) := by rw [← hsz2]; exact heap_alloc_new W2 _
  have ho0 : ∀ q, q < N + 2 → (W2.alloc (.mapIter (some r) clock #[] clock)).heap[q]? = W2.heap[q]? := fun q hq => heap_alloc_old W2 _ (by omega)
  have HI0 : Aside (SetI w (W2.alloc (.mapIter (some r) clock #[] clock)) f r clock N es c t #[] #[]) :=
    ⟨⟨⟨HS0.out.1.os, HS0.out.1.tape, HS0.out.1.output, by simp; omega, fun q hq hf => (ho0 q (by omega)).trans (HS0.out.1.oth q hq hf), (ho0 f (by have := HLt.out.2; omega)).trans HS0.out.1.box, (ho0 N (by omega)).trans HS0.out.1.last, (ho0 (N + 1) (by omega)).trans HS0.out.1.held, HS0.out.1.val, HS0.out.1.nd⟩,
      (ho0 r (by have := HLt.out.1; omega)).trans HS0.out.2.1, ⟨clock, Nat.le_refl _, ha0⟩, by rw [seen_none]; exact List.Perm.refl _⟩⟩
  clear ha0 ho0 hsz2 HS0 HM HW
  generalize W2.alloc (.mapIter (some r) clock #[] clock) = w0 at *
  try go_frame
  go_loopg [3] (leftOf es #[]).size (fun kq _v3 wr => ∃ (seen : Array Nat) (hs : Array MapEntry), Aside ((leftOf es seen).size = kq) ∧ Aside (SetI w wr f r clock N es c t hs seen))
  case atStart => exact ⟨#[], #[], ⟨rfl⟩, HI0⟩
  case round =>
    clear HI0
    obtain ⟨seen, hs, HK, HV⟩ := hrel
    obtain ⟨hst, hob, ⟨c0, hc0, hit⟩, hpm⟩ := HV.out
    have HC := Aside.mk hc0
    have HP := Aside.mk hpm
    have HSt := Aside.mk hst
    clear hc0 hpm hst HV
    go_wp2_with (at_next; go_must (refine wpList_next_raw rfl _ rfl rfl hit hob HD.out.1.born HC.out HD.out.1.nd ?_ ?_))
    · intro hz
      have HEnd : Aside ((hs.toList.map (·.key)).Perm (es.toList.map (·.val))) := ⟨by have h := HP.out; rw [seen_all hz] at h; exact h⟩
      clear hz hit HK
      go_wp2
      exact ⟨rfl, .tuple #[], by simp [results, Tryz.results93, go_sem], rfl, hs, by rw [← HNe.out]; exact HSt.out, HEnd.out⟩
    · intro e he0 w1 hT h1 hen
      have he : e ∈ (leftOf es seen).toList := Array.mem_toList_iff.2 he0
      clear he0
      have hmem := (mem_left he).1
      have hns : seen.contains e.born = false := by
        have h := he
        rw [left_list, List.mem_filter] at h
        simpa using h.2
      obtain ⟨y, hval⟩ := HD.out.1.val e hmem
      have st1 := HSt.out.turn hT (Nat.le_refl _) HLt.out.2
      have ob1 : w1.heap[r]? = some (.map es clock) := (hT.block r (by have := HLt.out.1; omega)).trans hob
      have hbk : ∀ z ∈ es.toList, ∀ q, z.val = .pointer (some ⟨q, 0, none⟩) → ∃ (c : Array Value) (t : TypeId), w1.heap[q]? = some (.cells c t (0, 0)) := fun z hz q hq => by
        obtain ⟨c, t, h, hf⟩ := HX.out z hz q hq
        exact ⟨c, t, (st1.oth q (by rw [HNe.out]; exact blk_lt h) hf).trans h⟩
      obtain ⟨cy, ty, hy1⟩ := hbk e hmem y hval
      have hso := seen_other HD.out.1.nd HD.out.2 hmem hns
      have HBk : Aside (BoxKeys w1 y hs.toList) := ⟨fun z hz => by
        have hzk := HP.out.mem_iff.1 (List.mem_map_of_mem hz)
        obtain ⟨e2, he2, hk2⟩ := List.mem_map.1 hzk
        have hm2 := (List.mem_filter.1 he2).1
        obtain ⟨y2, hv2⟩ := HD.out.1.val e2 hm2
        refine ⟨y2, hk2.symm.trans hv2, fun e3 => hso ?_, hbk e2 hm2 y2 hv2⟩
        rw [hval, ← e3, ← hv2, hk2]
        exact hzk⟩
      have HSp := Aside.mk (seen_perm HD.out.1.nd hmem hns)
      have HS1 := Aside.mk st1
      have HO1 := Aside.mk ob1
      have HI1 := Aside.mk h1
      have HY := Aside.mk (And.intro hy1 hval)
      have HKl := Aside.mk (left_shrinks es seen e he)
      have k4 := fs_cell (k := 4) (v := .map (some (N + 1))) st1.box (by have := HCr.out.2; unfold fsBox; rw [Array.getElem?_setIfInBounds_self]; simp; omega)
      have hh := st1.held
      rw [hval] at hen ⊢
      clear hmem hns hval st1 ob1 hbk hy1 hso hT h1 he hob hit
      go_wp2_with (at_mapUpdate; go_must (refine wpList_update_box rfl _ _ _ 122 4 rfl Tryz.underlying122 rfl rfl rfl hh HY.out.1 HBk.out ?_; intro w2 hT2 ho2))
      have HV2 : Aside (SetI w w2 f r clock N es c t (hs.push { key := .pointer (some ⟨y, 0, none⟩), val := .bool true, born := hs.size }) (seen.push e.born)) :=
        ⟨⟨HS1.out.add hT2 HLt.out.2 ho2, (hT2.block r (by have := HLt.out.1; omega)).trans HO1.out, ⟨clock, Nat.le_refl _, (hT2.block (N + 2) (by omega)).trans HI1.out⟩, by
          rw [Array.toList_push, List.map_append, ← HY.out.2]
          exact (HP.out.append_right _).trans HSp.out.symm⟩⟩
      clear hT2 ho2 hh k4
      try go_frame
      go_roundg (leftOf es (seen.push e.born)).size
      case measure => have := HKl.out; have := HK.out; omega
      case rel => exact ⟨seen.push e.born, _, ⟨rfl⟩, HV2⟩
end
section
open Go.RowKit
/-! ### pure -/
def tabN (n : Nat) : Nat := [0, 79764919, 159529838, 222504665, 319059676, 398814059, 445009330, 507990021, 638119352, 583659535, 797628118, 726387553, 890018660, 835552979, 1015980042, 944750013].getD n 0
def nibN (x y : Nat) : Nat := (x * 16 % 4294967296) ^^^ tabN (x / 268435456 ^^^ y)
def crcB (x b : Nat) : Nat := nibN (nibN x (b / 16)) (b % 16)
def crcR (x : Nat) (bs : List UInt8) : Nat := bs.foldl (fun x b => crcB x b.toNat) x
/-- The sum. -/
def crcF (c : Nat) (bs : List UInt8) : Nat := 4294967295 - crcR (4294967295 - c) bs
theorem tabN_lt (n : Nat) : tabN n < 4294967296 := by
  unfold tabN
  by_cases h : n < 16
  · have : ∀ k : Fin 16, ([0, 79764919, 159529838, 222504665, 319059676, 398814059, 445009330, 507990021, 638119352, 583659535, 797628118, 726387553, 890018660, 835552979, 1015980042, 944750013] : List Nat).getD k.1 0 < 4294967296 := by decide
    exact this ⟨n, h⟩
  · rw [List.getD_eq_getElem?_getD, List.getElem?_eq_none (by simp; omega)]; decide
theorem nibN_lt (x y : Nat) : nibN x y < 4294967296 := by
  unfold nibN
  exact Nat.xor_lt_two_pow (n := 32) (Nat.mod_lt _ (by decide)) (tabN_lt _)
theorem crcB_lt (x b : Nat) : crcB x b < 4294967296 := nibN_lt _ _
theorem crcR_lt : ∀ (bs : List UInt8) (x : Nat), x < 4294967296 → crcR x bs < 4294967296
  | [], _, h => h
  | b :: bs, x, _ => crcR_lt bs _ (crcB_lt x b.toNat)
theorem crcR_snoc (x : Nat) (bs : List UInt8) (b : UInt8) : crcR x (bs ++ [b]) = crcB (crcR x bs) b.toNat := by simp [crcR]
theorem nib_ix {x y : Nat} (hx : x < 4294967296) (hy : y < 16) : x / 268435456 ^^^ y < 16 := Nat.xor_lt_two_pow (n := 4) (by omega) hy
theorem crc_take {bs : List UInt8} {i : Nat} (hi : i < bs.length) (x : Nat) : crcR x (bs.take (i + 1)) = crcB (crcR x (bs.take i)) bs[i].toNat := by
  rw [List.take_succ_eq_append_getElem hi, crcR_snoc]
/-! ### the walks -/
theorem xor_ix {x y : Nat} (hx : x < 4294967296) (hy : y < 16) : bits .xor .u8 ((x : Int) / 268435456) (y : Int) = ((x / 268435456 ^^^ y : Nat) : Int) := by
  have h := u8_xor_nat (x / 268435456) y (by omega) (by omega)
  rw [← h]
  congr 1
theorem xor_nib {x y : Nat} : bits .xor .u32 ((x : Int) * 16 % 4294967296) ((tabN (x / 268435456 ^^^ y) : Nat) : Int) = ((nibN x y : Nat) : Int) := by
  have h := u32_xor_nat (x * 16 % 4294967296) (tabN (x / 268435456 ^^^ y)) (Nat.mod_lt _ (by decide)) (tabN_lt _)
  unfold nibN
  rw [← h]
  congr 1
theorem not32 {c : Nat} (h : c ≤ 4294967295) : bits .xor .u32 IntKind.u32.max (c : Int) = ((4294967295 - c : Nat) : Int) := by
  have h1 := u32_xor_nat 4294967295 c (by decide) (by omega)
  have e : (4294967295 : Nat) ^^^ c = 4294967295 - c := by
    have h2 : (2 ^ 32 - 1) ^^^ c = 2 ^ 32 - 1 - c := by
      apply Nat.eq_of_testBit_eq
      intro i
      rw [Nat.testBit_xor, Nat.testBit_two_pow_sub_one]
      have h3 : 2 ^ 32 - 1 - c = 2 ^ 32 - (c + 1) := by omega
      rw [h3, Nat.testBit_two_pow_sub_succ (by omega)]
      by_cases hi : i < 32
      · simp [hi]
      · have : c.testBit i = false := Nat.testBit_lt_two_pow (Nat.lt_of_lt_of_le (by omega : c < 2 ^ 32) (Nat.pow_le_pow_right (by decide) (by omega)))
        simp [hi, this]
    exact h2
  rw [← e, ← h1]
  rfl
set_option maxHeartbeats 4000000 in
set_option maxRecDepth 100000 in
theorem crc_raw {w : World} {A : Option Addr} {cp : Nat} {bs : List UInt8} {c : Nat} (hc : c ≤ 4294967295) (hT : ∀ k, k < 16 → w.cell? ⟨3, k, none⟩ = some (.int .u32 (tabN k : Nat))) (hm : bs.length ≤ 9223372036854775807) (hs : ∀ (i : Nat) (hi : i < bs.length), ∃ b o, A = some ⟨b, o, none⟩ ∧ w.cell? ⟨b, o + i, none⟩ = some (.int .u8 bs[i].toNat)) :
    Calls Tryz.prog 188 #[.int .u32 c, .slice A bs.length cp] w fun e w' => e = .returned (.int .u32 (crcF c bs : Nat)) ∧ w' = w := by
  have hc0 : (0 : Int) ≤ (c : Int) := by omega
  have hc1 : (c : Int) ≤ 4294967295 := by omega
  have hn := not32 hc
  have HT := Aside.mk hT
  have HS := Aside.mk hs
  have HX0 : Aside (4294967295 - c < 4294967296 ∧ 4294967295 - c = crcR (4294967295 - c) (bs.take 0)) := ⟨by omega, rfl⟩
  clear hs hT hc
  go_enter Tryz.func188, Tryz.ntmps188
  go_wp2
  clear hn
  go_loopg [5, 12] bs.length (fun kq v5 v12 wr => ∃ (i x : Nat), Aside (i + kq = bs.length) ∧ v12 = .int .i64 i ∧ v5 = .int .u32 x ∧ Aside (x < 4294967296 ∧ x = crcR (4294967295 - c) (bs.take i)) ∧ wr = w)
  case atStart => exact ⟨0, _, ⟨by omega⟩, rfl, rfl, HX0, rfl⟩
  case round =>
    clear HX0
    obtain ⟨i, x, HI, rfl, rfl, HX, rfl⟩ := hrel
    by_cases hi : i < bs.length
    · obtain ⟨b, o, e, k0⟩ := HS.out i hi
      cases e
      have HTk := Aside.mk (crc_take hi (4294967295 - c))
      have HM : Aside (bs.length - (i + 1) < gk ∧ i + 1 + (bs.length - (i + 1)) = bs.length) := ⟨by have := HI.out; omega⟩
      have hy : bs[i].toNat < 256 := bs[i].toNat_lt
      generalize bs[i].toNat = y at *
      have x0 : (0 : Int) ≤ (x : Int) := by omega
      have x1 : (x : Int) ≤ 4294967295 := by have := HX.out.1; omega
      have y0 : (0 : Int) ≤ (y : Int) := by omega
      have y1 : (y : Int) ≤ 255 := by omega
      have F1 : bits .xor .u8 ((x : Int) / 268435456) ((y : Int) / 16) = ((x / 268435456 ^^^ y / 16 : Nat) : Int) := by
        have := xor_ix (x := x) (y := y / 16) HX.out.1 (by omega)
        simpa using this
      have hk1 := nib_ix (x := x) (y := y / 16) HX.out.1 (by omega)
      have K1 := HT.out _ hk1
      have F2 := xor_nib (x := x) (y := y / 16)
      have hl1 := nibN_lt x (y / 16)
      obtain ⟨x2, hx2⟩ : ∃ x2, x2 = nibN x (y / 16) := ⟨_, rfl⟩
      rw [← hx2] at F2 hl1
      have HX2 := Aside.mk hx2
      generalize (x / 268435456 ^^^ y / 16) = q1 at *
      have q10 : (0 : Int) ≤ (q1 : Int) := by omega
      have q11 : (q1 : Int) < 16 := by omega
      clear hx2
      go_upto_region 6 with (fail)
      clear F1 F2 K1 q10 q11 hk1
      have x3 : (x2 : Int) ≤ 4294967295 := by omega
      have x2z : (0 : Int) ≤ (x2 : Int) := by omega
      have F3 : bits .and .u8 (y : Int) 15 = (y : Int) % 16 := by
        have h := u8_and_nat y 15 (by omega) (by decide)
        rw [show (15 : Nat) = 2 ^ 4 - 1 by decide, Nat.and_two_pow_sub_one_eq_mod] at h
        simpa using h
      have F1 : bits .xor .u8 ((x2 : Int) / 268435456) ((y : Int) % 16) = ((x2 / 268435456 ^^^ y % 16 : Nat) : Int) := by
        have := xor_ix (x := x2) (y := y % 16) hl1 (by omega)
        simpa using this
      have hk1 := nib_ix (x := x2) (y := y % 16) hl1 (by omega)
      have K1 := HT.out _ hk1
      have F2 := xor_nib (x := x2) (y := y % 16)
      have hl2 := nibN_lt x2 (y % 16)
      obtain ⟨x4, hx4⟩ : ∃ x4, x4 = nibN x2 (y % 16) := ⟨_, rfl⟩
      rw [← hx4] at F2 hl2
      have HR : Aside (x4 < 4294967296 ∧ x4 = crcR (4294967295 - c) (bs.take (i + 1))) := ⟨hl2, by rw [HTk.out, ← HX.out.2, hx4, HX2.out]; rfl⟩
      generalize (x2 / 268435456 ^^^ y % 16) = q2 at *
      have q10 : (0 : Int) ≤ (q2 : Int) := by omega
      have q11 : (q2 : Int) < 16 := by omega
      clear hx4
      go_wp2
      go_roundg (bs.length - (i + 1))
      case measure => exact HM.out.1
      case rel => exact ⟨i + 1, x4, ⟨HM.out.2⟩, by go_num, rfl, HR, rfl⟩
    · have hie : i = bs.length := by have := HI.out; omega
      have hn := not32 (c := x) (by have := HX.out.1; omega)
      have HP : Aside (4294967295 - x = crcF c bs) := ⟨by
        have := HX.out.2
        rw [hie, List.take_length] at this
        rw [this]
        rfl⟩
      have x0 : (0 : Int) ≤ (x : Int) := by omega
      have x1 : (x : Int) ≤ 4294967295 := by have := HX.out.1; omega
      replace hi : bs.length ≤ i := by omega
      have hsg : IntKind.u32.signed = false := rfl
      clear hie
      go_wp2
      go_ret
      exact ⟨congrArg (fun n : Nat => Ending.returned (.int .u32 (n : Int))) HP.out, rfl⟩
theorem crc_any {w : World} {ok : Nat → Prop} {v : Value} {bs : List UInt8} {c : Nat} (hc : c ≤ 4294967295) (hT : ∀ k, k < 16 → w.cell? ⟨3, k, none⟩ = some (.int .u32 (tabN k : Nat))) (hs : Sl kbyte w ok v bs) :
    Calls Tryz.prog 188 #[.int .u32 c, v] w fun e w' => e = .returned (.int .u32 (crcF c bs : Nat)) ∧ w' = w := by
  obtain ⟨A, cp, rfl, hcp, hm⟩ := hs.slice
  exact crc_raw hc hT (by omega) fun i hi => hs.byte i hi
end
section
open Go.RowKit
/-! ### pure -/
def bitN (r : Nat) : Nat := if 2147483648 ≤ r then (r * 2 % 4294967296) ^^^ 79764919 else r * 2 % 4294967296
def bitsN : Nat → Nat → Nat
  | 0, r => r
  | k + 1, r => bitsN k (bitN r)
theorem bitsN_add : ∀ (a b r : Nat), bitsN (a + b) r = bitsN b (bitsN a r)
  | 0, b, r => by rw [Nat.zero_add]; rfl
  | a + 1, b, r => by rw [Nat.succ_add]; exact bitsN_add a b (bitN r)
theorem bitN_lt (r : Nat) : bitN r < 4294967296 := by
  unfold bitN
  split
  · exact Nat.xor_lt_two_pow (n := 32) (Nat.mod_lt _ (by decide)) (by decide)
  · exact Nat.mod_lt _ (by decide)
theorem bit31 {r : Nat} (h : r < 4294967296) : r.testBit 31 = decide (2147483648 ≤ r) := by
  rw [Nat.testBit_eq_decide_div_mod_eq]
  rw [Bool.eq_iff_iff]
  simp only [decide_eq_true_eq]
  omega
theorem bitN_eq {r : Nat} (h : r < 4294967296) : bitN r = ((r <<< 1) % 2 ^ 32) ^^^ (if r.testBit 31 then 79764919 else 0) := by
  rw [bit31 h, Nat.shiftLeft_eq]
  unfold bitN
  by_cases h2 : 2147483648 ≤ r
  · rw [if_pos h2, if_pos (by simpa using h2)]
  · rw [if_neg h2, if_neg (by simpa using h2), Nat.xor_zero]
theorem bitN_xor {a b : Nat} (ha : a < 4294967296) (hb : b < 4294967296) : bitN (a ^^^ b) = bitN a ^^^ bitN b := by
  have hab : a ^^^ b < 4294967296 := Nat.xor_lt_two_pow (n := 32) ha hb
  rw [bitN_eq ha, bitN_eq hb, bitN_eq hab, Nat.shiftLeft_xor_distrib, Nat.xor_mod_two_pow, Nat.testBit_xor]
  generalize (a <<< 1) % 2 ^ 32 = p
  generalize (b <<< 1) % 2 ^ 32 = q
  cases a.testBit 31 <;> cases b.testBit 31
  · simp
  · simp [Nat.xor_assoc]
  · simp only [Bool.true_bne, Bool.not_false, if_true, Bool.false_eq_true, if_false, Nat.xor_zero]
    ac_rfl
  · simp only [bne_self_eq_false, Bool.false_eq_true, if_false, if_true, Nat.xor_zero]
    rw [show p ^^^ 79764919 ^^^ (q ^^^ 79764919) = p ^^^ q ^^^ (79764919 ^^^ 79764919) by ac_rfl, Nat.xor_self, Nat.xor_zero]
theorem bitsN_xor : ∀ (k : Nat) {a b : Nat}, a < 4294967296 → b < 4294967296 → bitsN k (a ^^^ b) = bitsN k a ^^^ bitsN k b
  | 0, _, _, _, _ => rfl
  | k + 1, a, b, ha, hb => by
    show bitsN k (bitN (a ^^^ b)) = bitsN k (bitN a) ^^^ bitsN k (bitN b)
    rw [bitN_xor ha hb, bitsN_xor k (bitN_lt a) (bitN_lt b)]
theorem bit_small {r : Nat} (h : r < 2147483648) : bitN r = r * 2 := by
  unfold bitN
  rw [if_neg (by omega)]
  omega
theorem bits_lo {r : Nat} (h : r < 268435456) : bitsN 4 r = r * 16 := by
  simp only [bitsN]
  rw [bit_small (r := r) (by omega), bit_small (r := r * 2) (by omega), bit_small (r := r * 2 * 2) (by omega), bit_small (r := r * 2 * 2 * 2) (by omega)]
  omega
theorem bits_hi : ∀ n : Fin 16, bitsN 4 (n.1 * 268435456) = tabN n.1 := by decide
theorem split_hi {r : Nat} : r = (r / 268435456 * 268435456) ^^^ (r % 268435456) := by
  have h := Nat.two_pow_add_eq_or_of_lt (i := 28) (b := r % 268435456) (Nat.mod_lt _ (by decide)) (r / 268435456)
  have h2 : 2 ^ 28 * (r / 268435456) + r % 268435456 = r := by omega
  rw [h2] at h
  have h3 : (r / 268435456 * 268435456) ^^^ (r % 268435456) = 2 ^ 28 * (r / 268435456) ||| r % 268435456 := by
    apply Nat.eq_of_testBit_eq
    intro i
    rw [Nat.testBit_xor, Nat.testBit_or, Nat.mul_comm]
    by_cases hi : i < 28
    · have : (2 ^ 28 * (r / 268435456)).testBit i = false := by rw [Nat.testBit_two_pow_mul]; simp; omega
      have e : (268435456 : Nat) = 2 ^ 28 := by decide
      rw [e] at *
      rw [this]
      simp
    · have : (r % 268435456).testBit i = false := Nat.testBit_lt_two_pow (Nat.lt_of_lt_of_le (Nat.mod_lt _ (by decide)) (Nat.pow_le_pow_right (n := 2) (by decide) (by omega : 28 ≤ i)))
      have e : (268435456 : Nat) = 2 ^ 28 := by decide
      rw [e] at *
      rw [this]
      simp
  rw [h3]
  exact h
/-- Four bits at once. -/
theorem bits_four {r : Nat} (h : r < 4294967296) : bitsN 4 r = (r * 16 % 4294967296) ^^^ tabN (r / 268435456) := by
  have h1 : r / 268435456 < 16 := by omega
  have e := bits_hi ⟨r / 268435456, h1⟩
  simp only at e
  conv => lhs; rw [split_hi (r := r)]
  rw [bitsN_xor 4 (by omega) (by omega), e, bits_lo (Nat.mod_lt _ (by decide)), Nat.xor_comm]
  congr 1
  omega
theorem xor_div (a b : Nat) : (a ^^^ b) / 268435456 = a / 268435456 ^^^ b / 268435456 := by
  have := Nat.shiftRight_xor_distrib (a := a) (b := b) (i := 28)
  simpa [Nat.shiftRight_eq_div_pow] using this
theorem xor_mul16 (a b : Nat) : (a ^^^ b) * 16 % 4294967296 = (a * 16 % 4294967296) ^^^ (b * 16 % 4294967296) := by
  have h1 := Nat.shiftLeft_xor_distrib (a := a) (b := b) (i := 4)
  simp only [Nat.shiftLeft_eq] at h1
  rw [show (16 : Nat) = 2 ^ 4 by decide, h1]
  exact Nat.xor_mod_two_pow (n := 32)
theorem sh_a {b : Nat} (hb : b < 256) : b * 16777216 < 4294967296 := by omega
theorem sh_b (b : Nat) : b * 16777216 / 268435456 = b / 16 := by omega
theorem sh_c (b : Nat) : b * 16777216 * 16 % 4294967296 = b % 16 * 268435456 := by omega
theorem sh_d (b : Nat) : b % 16 * 268435456 < 4294967296 := by omega
theorem sh_e (b : Nat) : b % 16 * 268435456 / 268435456 = b % 16 := by omega
theorem sh_f (b : Nat) : b % 16 * 268435456 * 16 % 4294967296 = 0 := by omega
/-- A byte, bit by bit, is two steps by the table. -/
theorem bits_byte {x b : Nat} (hx : x < 4294967296) (hb : b < 256) : bitsN 8 (x ^^^ b * 16777216) = crcB x b := by
  have hb2 := sh_a hb
  have hr : x ^^^ b * 16777216 < 4294967296 := Nat.xor_lt_two_pow (n := 32) hx hb2
  have e8 : bitsN 8 (x ^^^ b * 16777216) = bitsN 4 (bitsN 4 (x ^^^ b * 16777216)) := bitsN_add 4 4 _
  rw [e8, bits_four hr, xor_div, xor_mul16]
  rw [sh_b, sh_c]
  have e3 : x * 16 % 4294967296 ^^^ b % 16 * 268435456 ^^^ tabN (x / 268435456 ^^^ b / 16) = nibN x (b / 16) ^^^ b % 16 * 268435456 := by
    unfold nibN
    ac_rfl
  rw [e3]
  have hn := nibN_lt x (b / 16)
  rw [bits_four (Nat.xor_lt_two_pow (n := 32) hn (sh_d b)), xor_div, xor_mul16, sh_e, sh_f, Nat.xor_zero]
  rfl
/-! ### the walks -/
theorem xor_poly (r : Nat) : bits .xor .u32 ((r : Int) * 2 % 4294967296) 79764919 = (((r * 2 % 4294967296) ^^^ 79764919 : Nat) : Int) := by
  have h := u32_xor_nat (r * 2 % 4294967296) 79764919 (Nat.mod_lt _ (by decide)) (by decide)
  rw [← h]
  congr 1
set_option maxHeartbeats 1000000 in
theorem step_any {w : World} {r : Nat} (hr : r < 4294967296) : Calls Tryz.prog 225 #[.int .u32 r] w fun e w' => e = .returned (.int .u32 (bitN r : Nat)) ∧ w' = w := by
  have h0 : (0 : Int) ≤ (r : Int) := by omega
  have h1 : (r : Int) ≤ 4294967295 := by omega
  by_cases h2 : 2147483648 ≤ r
  · have HP : Aside (bitN r = (r * 2 % 4294967296) ^^^ 79764919) := ⟨by unfold bitN; rw [if_pos h2]⟩
    have d1 : decide ((2147483648 : Int) ≤ (r : Int)) = true := decide_eq_true (by omega)
    have d2 : decide (2147483648 ≤ r) = true := decide_eq_true h2
    have F := xor_poly r
    generalize bitN r = q at *
    obtain rfl := HP.out
    clear h2
    go_enter Tryz.func225, Tryz.ntmps225
    go_wp2
    go_ret
    exact ⟨rfl, rfl⟩
  · have HP : Aside (((bitN r : Nat) : Int) = (r : Int) * 2 % 4294967296) := ⟨by unfold bitN; rw [if_neg h2]; omega⟩
    have d1 : decide ((2147483648 : Int) ≤ (r : Int)) = false := decide_eq_false (by omega)
    have d2 : decide (2147483648 ≤ r) = false := decide_eq_false h2
    replace h2 : r < 2147483648 := by omega
    go_enter Tryz.func225, Tryz.ntmps225
    go_wp2
    go_ret
    exact ⟨congrArg (fun n : Int => Ending.returned (.int .u32 n)) (by rw [HP.out]; first | rfl | omega), rfl⟩
theorem bitsN_succ (k r : Nat) : bitsN (k + 1) r = bitN (bitsN k r) := by rw [bitsN_add]; rfl
theorem bitsN_lt : ∀ (k : Nat) {r : Nat}, r < 4294967296 → bitsN k r < 4294967296
  | 0, _, h => h
  | k + 1, r, _ => bitsN_lt k (bitN_lt r)
theorem xor_byte {x b : Nat} (hx : x < 4294967296) (hb : b < 256) : bits .xor .u32 (x : Int) ((b : Int) * 16777216) = ((x ^^^ b * 16777216 : Nat) : Int) := by
  have h := u32_xor_nat x (b * 16777216) hx (sh_a hb)
  rw [← h]
  congr 1
set_option maxHeartbeats 4000000 in
set_option maxRecDepth 100000 in
theorem refCrc_raw {w : World} {A : Option Addr} {cp : Nat} {bs : List UInt8} {c : Nat} (hc : c ≤ 4294967295) (hm : bs.length ≤ 9223372036854775807) (hs : ∀ (i : Nat) (hi : i < bs.length), ∃ b o, A = some ⟨b, o, none⟩ ∧ w.cell? ⟨b, o + i, none⟩ = some (.int .u8 bs[i].toNat)) :
    Calls Tryz.prog 203 #[.int .u32 c, .slice A bs.length cp] w fun e w' => e = .returned (.int .u32 (crcF c bs : Nat)) ∧ w' = w := by
  have hc0 : (0 : Int) ≤ (c : Int) := by omega
  have hc1 : (c : Int) ≤ 4294967295 := by omega
  have HS := Aside.mk hs
  obtain ⟨x0, hx0⟩ : ∃ x0 : Nat, x0 = 4294967295 - c := ⟨_, rfl⟩
  have hn : (4294967295 : Int) - (c : Int) = (x0 : Int) := by omega
  have HX0 : Aside (x0 < 4294967296 ∧ x0 = crcR (4294967295 - c) (bs.take 0)) := ⟨by omega, hx0⟩
  clear hs hc hx0
  go_enter Tryz.func203, Tryz.ntmps203
  go_wp2
  clear hn
  go_loopg [5, 6] bs.length (fun kq v5 v6 wr => ∃ (i x : Nat), Aside (i + kq = bs.length) ∧ v6 = .int .i64 i ∧ v5 = .int .u32 x ∧ Aside (x < 4294967296 ∧ x = crcR (4294967295 - c) (bs.take i)) ∧ wr = w)
  case atStart => exact ⟨0, _, ⟨by omega⟩, rfl, rfl, HX0, rfl⟩
  case round =>
    clear HX0
    obtain ⟨i, x, HI, rfl, rfl, HX, rfl⟩ := hrel
    by_cases hi : i < bs.length
    · obtain ⟨b, o, e, k0⟩ := HS.out i hi
      cases e
      have HTk := Aside.mk (crc_take hi (4294967295 - c))
      have HM : Aside (bs.length - (i + 1) < gk ∧ i + 1 + (bs.length - (i + 1)) = bs.length) := ⟨by have := HI.out; omega⟩
      have hy : bs[i].toNat < 256 := bs[i].toNat_lt
      generalize bs[i].toNat = y at *
      have y0 : (0 : Int) ≤ (y : Int) := by omega
      have y1 : (y : Int) ≤ 255 := by omega
      have x00 : (0 : Int) ≤ (x : Int) := by omega
      have x01 : (x : Int) ≤ 4294967295 := by have := HX.out.1; omega
      have F := xor_byte HX.out.1 hy
      have HBy := Aside.mk (bits_byte HX.out.1 hy)
      have hz : x ^^^ y * 16777216 < 4294967296 := Nat.xor_lt_two_pow (n := 32) HX.out.1 (sh_a hy)
      obtain ⟨z, hze⟩ : ∃ z, z = x ^^^ y * 16777216 := ⟨_, rfl⟩
      rw [← hze] at F hz HBy
      have H0 : Aside (z < 4294967296 ∧ z = bitsN 0 z) := ⟨hz, rfl⟩
      have HX2 := Aside.mk HX.out.2
      clear hze HX hz
      obtain ⟨w2, hw2⟩ : ∃ w2, w2 = wr := ⟨_, rfl⟩
      subst hw2
      go_wp2
      go_loopg [5, 7] 8 (fun kq v5 v7 wr => ∃ (k r : Nat), Aside (k + kq = 8) ∧ v7 = .int .i64 k ∧ v5 = .int .u32 r ∧ Aside (r < 4294967296 ∧ r = bitsN k z) ∧ wr = w2)
      case atStart => exact ⟨0, _, ⟨by omega⟩, rfl, rfl, H0, rfl⟩
      case round =>
        clear H0 F
        obtain ⟨k, r, HK, rfl, rfl, HR, rfl⟩ := hrel
        by_cases hk : k < 8
        · have hst := step_any (w := wr) HR.out.1
          have HN : Aside (bitN r < 4294967296 ∧ bitN r = bitsN (k + 1) z) := ⟨bitN_lt r, by rw [bitsN_succ, ← HR.out.2]⟩
          have HM2 : Aside (8 - (k + 1) < gk ∧ k + 1 + (8 - (k + 1)) = 8) := ⟨by have := HK.out; omega⟩
          have hk' : (k : Int) < 8 := by omega
          go_wp2_with fail
          refine hst.mono ?_
          clear hst
          rintro e w5 ⟨rfl, hw5⟩
          subst w5
          go_wp2_with fail
          go_roundg (8 - (k + 1))
          case measure => exact HM2.out.1
          case rel => exact ⟨k + 1, _, ⟨HM2.out.2⟩, by go_num, rfl, HN, rfl⟩
        · have hk8 : k = 8 := by have := HK.out; omega
          have HN : Aside (r < 4294967296 ∧ r = crcR (4294967295 - c) (bs.take (i + 1))) := ⟨HR.out.1, by rw [HTk.out, ← HX2.out, ← HBy.out, HR.out.2, hk8]⟩
          have hk' : ¬ ((k : Int) < 8) := by omega
          replace hk : 8 ≤ k := by omega
          clear hk8
          go_wp2
          go_roundg (bs.length - (i + 1))
          case measure => exact HM.out.1
          case rel => exact ⟨i + 1, r, ⟨HM.out.2⟩, by go_num, rfl, HN, rfl⟩
    · have hie : i = bs.length := by have := HI.out; omega
      have HP : Aside (4294967295 - x = crcF c bs) := ⟨by
        have := HX.out.2
        rw [hie, List.take_length] at this
        rw [this]
        rfl⟩
      obtain ⟨z, hz⟩ : ∃ z : Nat, z = 4294967295 - x := ⟨_, rfl⟩
      have hn : (4294967295 : Int) - (x : Int) = (z : Int) := by have := HX.out.1; omega
      have HZ : Aside (z = crcF c bs) := ⟨hz.trans HP.out⟩
      have x00 : (0 : Int) ≤ (x : Int) := by omega
      have x01 : (x : Int) ≤ 4294967295 := by have := HX.out.1; omega
      replace hi : bs.length ≤ i := by omega
      clear hie hz HP
      go_wp2
      go_ret
      exact ⟨congrArg (fun n : Nat => Ending.returned (.int .u32 (n : Int))) HZ.out, rfl⟩
theorem refCrc_any {w : World} {ok : Nat → Prop} {v : Value} {bs : List UInt8} {c : Nat} (hc : c ≤ 4294967295) (hs : Sl kbyte w ok v bs) :
    Calls Tryz.prog 203 #[.int .u32 c, v] w fun e w' => e = .returned (.int .u32 (crcF c bs : Nat)) ∧ w' = w := by
  obtain ⟨A, cp, rfl, hcp, hm⟩ := hs.slice
  exact refCrc_raw hc (by omega) fun i hi => hs.byte i hi
end
section
open Go.RowKit
def nameC (c : UInt8) : Bool := !((c.toNat != 46) && (decide (c.toNat < 97) || decide (122 < c.toNat)) && (decide (c.toNat < 48) || decide (57 < c.toNat)))
def nameF (l : List UInt8) : Bool := decide (1 ≤ l.length ∧ l.length ≤ 64) && l.all nameC
theorem name_len {l : List UInt8} (h : ¬ (1 ≤ l.length ∧ l.length ≤ 64)) : nameF l = false := by unfold nameF; rw [decide_eq_false h]; rfl
theorem name_no {l : List UInt8} {i : Nat} (hi : i < l.length) (h : nameC l[i] = false) : nameF l = false := by
  have : l.all nameC = false := by
    rw [List.all_eq_false]
    exact ⟨l[i], List.getElem_mem hi, by rw [h]; decide⟩
  unfold nameF
  rw [this]
  simp
theorem name_yes {l : List UInt8} (h : 1 ≤ l.length ∧ l.length ≤ 64) (h2 : l.all nameC = true) : nameF l = true := by unfold nameF; rw [decide_eq_true h, h2]; rfl
theorem take_all {l : List UInt8} {i : Nat} (hi : i < l.length) (h : (l.take i).all nameC = true) (hc : nameC l[i] = true) : (l.take (i + 1)).all nameC = true := by
  rw [List.take_succ_eq_append_getElem hi, List.all_append, h]
  simp [hc]
theorem str_byte {s : ByteArray} {i : Nat} (h : i < s.size) : s.data.toList[i]'(by simpa using h) = s[i] := by
  simp [ByteArray.getElem_eq_getElem_data]
/-- What is asked of a byte: each question in both forms. -/
theorem byte_asks (n : Nat) : ∃ b1 b2 b3 b4 b5 : Bool, (((n : Int) != 46) = b1 ∧ (n != 46) = b1) ∧ (decide ((n : Int) < 97) = b2 ∧ decide (n < 97) = b2) ∧ (decide ((122 : Int) < (n : Int)) = b3 ∧ decide (122 < n) = b3) ∧ (decide ((n : Int) < 48) = b4 ∧ decide (n < 48) = b4) ∧ (decide ((57 : Int) < (n : Int)) = b5 ∧ decide (57 < n) = b5) := by
  refine ⟨n != 46, decide (n < 97), decide (122 < n), decide (n < 48), decide (57 < n), ⟨?_, rfl⟩, ⟨?_, rfl⟩, ⟨?_, rfl⟩, ⟨?_, rfl⟩, ⟨?_, rfl⟩⟩
  · rw [Bool.eq_iff_iff]; simp; omega
  all_goals rw [Bool.eq_iff_iff]; simp only [decide_eq_true_eq]; omega
set_option maxHeartbeats 4000000 in
set_option maxRecDepth 100000 in
theorem isName_any {w : World} (s : ByteArray) : Calls Tryz.prog 129 #[.string s] w fun e w' => e = .returned (.bool (nameF s.data.toList)) ∧ w' = w := by
  have hlen : s.data.toList.length = s.size := by simp
  by_cases h0 : s.size < 1
  · have HP : Aside (nameF s.data.toList = false) := ⟨name_len (by omega)⟩
    have f1 : decide ((s.size : Int) < 1) = true := decide_eq_true (by omega)
    have f2 : decide (s.size < 1) = true := decide_eq_true h0
    clear hlen
    go_enter Tryz.func129, Tryz.ntmps129
    go_wp2
    go_ret
    exact ⟨retb HP.out, rfl⟩
  by_cases h1 : 64 < s.size
  · have HP : Aside (nameF s.data.toList = false) := ⟨name_len (by omega)⟩
    have f1 : decide ((s.size : Int) < 1) = false := decide_eq_false (by omega)
    have f2 : decide ((64 : Int) < (s.size : Int)) = true := decide_eq_true (by omega)
    have f3 : decide (64 < s.size) = true := decide_eq_true h1
    clear hlen h0
    go_enter Tryz.func129, Tryz.ntmps129
    go_wp2
    go_ret
    exact ⟨retb HP.out, rfl⟩
  have f1 : decide ((s.size : Int) < 1) = false := decide_eq_false (by omega)
  have f2 : decide ((64 : Int) < (s.size : Int)) = false := decide_eq_false (by omega)
  have f3 : decide (64 < s.size) = false := decide_eq_false h1
  have HL : Aside (s.data.toList.length = s.size ∧ 1 ≤ s.size ∧ s.size ≤ 64) := ⟨by omega⟩
  have H0 : Aside ((s.data.toList.take 0).all nameC = true) := ⟨rfl⟩
  clear hlen h0 h1
  go_enter Tryz.func129, Tryz.ntmps129
  go_wp2
  go_loopg [15] s.size (fun kq v15 wr => ∃ i : Nat, Aside (i + kq = s.size) ∧ v15 = .int .i64 i ∧ Aside ((s.data.toList.take i).all nameC = true) ∧ wr = w)
  case atStart => exact ⟨0, ⟨by omega⟩, rfl, H0, rfl⟩
  case round =>
    clear H0
    obtain ⟨i, HI, rfl, HA, rfl⟩ := hrel
    by_cases hi : i < s.size
    · have HNo : Aside (nameC s[i] = false → nameF s.data.toList = false) := ⟨fun h => name_no (i := i) (by have := HL.out; omega) (by rw [str_byte hi]; exact h)⟩
      have HYes : Aside (nameC s[i] = true → (s.data.toList.take (i + 1)).all nameC = true) := ⟨fun h => take_all (by have := HL.out; omega) HA.out (by rw [str_byte hi]; exact h)⟩
      have HM : Aside (s.size - (i + 1) < gk ∧ i + 1 + (s.size - (i + 1)) = s.size) := ⟨by have := HI.out; omega⟩
      have HC : Aside (nameC s[i] = !((s[i].toNat != 46) && (decide (s[i].toNat < 97) || decide (122 < s[i].toNat)) && (decide (s[i].toNat < 48) || decide (57 < s[i].toNat)))) := ⟨rfl⟩
      have i64 : i < 64 := by have := HL.out; omega
      have i0 : (0 : Int) ≤ (i : Int) := by omega
      have i1 : (i : Int) < (s.size : Int) := by omega
      clear HA
      obtain ⟨b1, b2, b3, b4, b5, ⟨c1, d1⟩, ⟨c2, d2⟩, ⟨c3, d3⟩, ⟨c4, d4⟩, c5, d5⟩ := byte_asks s[i].toNat
      rw [d1, d2, d3, d4, d5] at HC
      have HN0 : Aside (0 ≤ (s[i].toNat : Int) ∧ (s[i].toNat : Int) ≤ 255) := ⟨by have := s[i].toNat_lt; omega⟩
      clear d1 d2 d3 d4 d5
      cases b1 <;> cases b2 <;> cases b3 <;> cases b4 <;> cases b5
      all_goals
        first
          | (have HP := Aside.mk (HNo.out HC.out)
             go_wp2
             go_ret
             exact ⟨retb HP.out, rfl⟩)
          | (have HP := Aside.mk (HYes.out HC.out)
             go_wp2
             go_roundg (s.size - (i + 1))
             (case measure => exact HM.out.1)
             (case rel => exact ⟨i + 1, ⟨HM.out.2⟩, by go_num, HP, rfl⟩))
    · have hie : i = s.size := by have := HI.out; omega
      have HP : Aside (nameF s.data.toList = true) := ⟨name_yes (by have := HL.out; omega) (by
        have := HA.out
        rwa [hie, List.take_of_length_le (by have := HL.out; omega)] at this)⟩
      have i1 : ¬ ((i : Int) < (s.size : Int)) := by omega
      clear hie HA
      go_wp2
      go_ret
      exact ⟨retb HP.out, rfl⟩
set_option maxHeartbeats 4000000 in
set_option maxRecDepth 100000 in
theorem named_any {w : World} (s : ByteArray) : Calls Tryz.prog 131 #[.string s] w fun e w' => e = .returned (.bool (nameF s.data.toList)) ∧ w' = w := by
  have hlen : s.data.toList.length = s.size := by simp
  by_cases h0 : s.size < 1
  · have HP : Aside (nameF s.data.toList = false) := ⟨name_len (by omega)⟩
    have f1 : decide ((s.size : Int) < 1) = true := decide_eq_true (by omega)
    have f2 : decide (s.size < 1) = true := decide_eq_true h0
    clear hlen
    go_enter Tryz.func131, Tryz.ntmps131
    go_wp2
    go_ret
    exact ⟨retb HP.out, rfl⟩
  by_cases h1 : 64 < s.size
  · have HP : Aside (nameF s.data.toList = false) := ⟨name_len (by omega)⟩
    have f1 : decide ((s.size : Int) < 1) = false := decide_eq_false (by omega)
    have f2 : decide ((64 : Int) < (s.size : Int)) = true := decide_eq_true (by omega)
    have f3 : decide (64 < s.size) = true := decide_eq_true h1
    clear hlen h0
    go_enter Tryz.func131, Tryz.ntmps131
    go_wp2
    go_ret
    exact ⟨retb HP.out, rfl⟩
  have f1 : decide ((s.size : Int) < 1) = false := decide_eq_false (by omega)
  have f2 : decide ((64 : Int) < (s.size : Int)) = false := decide_eq_false (by omega)
  have f3 : decide (64 < s.size) = false := decide_eq_false h1
  have HL : Aside (s.data.toList.length = s.size ∧ 1 ≤ s.size ∧ s.size ≤ 64) := ⟨by omega⟩
  have H0 : Aside ((s.data.toList.take 0).all nameC = true) := ⟨rfl⟩
  clear hlen h0 h1
  go_enter Tryz.func131, Tryz.ntmps131
  go_wp2
  go_loopg [3] s.size (fun kq v3 wr => ∃ i : Nat, Aside (i + kq = s.size) ∧ v3 = .int .i64 i ∧ Aside ((s.data.toList.take i).all nameC = true) ∧ wr = w)
  case atStart => exact ⟨0, ⟨by omega⟩, rfl, H0, rfl⟩
  case round =>
    clear H0
    obtain ⟨i, HI, rfl, HA, rfl⟩ := hrel
    by_cases hi : i < s.size
    · have HNo : Aside (nameC s[i] = false → nameF s.data.toList = false) := ⟨fun h => name_no (i := i) (by have := HL.out; omega) (by rw [str_byte hi]; exact h)⟩
      have HYes : Aside (nameC s[i] = true → (s.data.toList.take (i + 1)).all nameC = true) := ⟨fun h => take_all (by have := HL.out; omega) HA.out (by rw [str_byte hi]; exact h)⟩
      have HM : Aside (s.size - (i + 1) < gk ∧ i + 1 + (s.size - (i + 1)) = s.size) := ⟨by have := HI.out; omega⟩
      have HC : Aside (nameC s[i] = !((s[i].toNat != 46) && (decide (s[i].toNat < 97) || decide (122 < s[i].toNat)) && (decide (s[i].toNat < 48) || decide (57 < s[i].toNat)))) := ⟨rfl⟩
      have i64 : i < 64 := by have := HL.out; omega
      have i0 : (0 : Int) ≤ (i : Int) := by omega
      have i1 : (i : Int) < (s.size : Int) := by omega
      clear HA
      obtain ⟨b1, b2, b3, b4, b5, ⟨c1, d1⟩, ⟨c2, d2⟩, ⟨c3, d3⟩, ⟨c4, d4⟩, c5, d5⟩ := byte_asks s[i].toNat
      rw [d1, d2, d3, d4, d5] at HC
      have HN0 : Aside (0 ≤ (s[i].toNat : Int) ∧ (s[i].toNat : Int) ≤ 255) := ⟨by have := s[i].toNat_lt; omega⟩
      clear d1 d2 d3 d4 d5
      cases b1 <;> cases b2 <;> cases b3 <;> cases b4 <;> cases b5
      all_goals
        first
          | (have HP := Aside.mk (HNo.out HC.out)
             go_wp2
             go_ret
             exact ⟨retb HP.out, rfl⟩)
          | (have HP := Aside.mk (HYes.out HC.out)
             go_wp2
             go_roundg (s.size - (i + 1))
             (case measure => exact HM.out.1)
             (case rel => exact ⟨i + 1, ⟨HM.out.2⟩, by go_num, HP, rfl⟩))
    · have hie : i = s.size := by have := HI.out; omega
      have HP : Aside (nameF s.data.toList = true) := ⟨name_yes (by have := HL.out; omega) (by
        have := HA.out
        rwa [hie, List.take_of_length_le (by have := HL.out; omega)] at this)⟩
      have i1 : ¬ ((i : Int) < (s.size : Int)) := by omega
      clear hie HA
      go_wp2
      go_ret
      exact ⟨retb HP.out, rfl⟩
end
end Go.Proofs.YtjncnppbaldmiaaGreatDoor
