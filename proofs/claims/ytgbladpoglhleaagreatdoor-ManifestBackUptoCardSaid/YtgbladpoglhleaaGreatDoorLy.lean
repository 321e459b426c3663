/- Layouts made of cuts: the program's and the document's New. No condition. -/
import Derived.Test.YtgbladpoglhleaaGreatDoorMc
namespace Go.Proofs.YtgbladpoglhleaaGreatDoor
open Go.RowKit
/-! ### pure -/
theorem fm_take {α σ : Type} (f : σ → α → Option σ) {xs : List α} {i : Nat} (hi : i < xs.length) (a : σ) : (xs.take (i + 1)).foldlM f a = ((xs.take i).foldlM f a).bind fun s => f s xs[i] := by
  rw [List.take_add_one, List.getElem?_eq_getElem hi, List.foldlM_append]
  cases (xs.take i).foldlM f a with
  | none => rfl
  | some s =>
    show (List.foldlM f s [xs[i]]) = f s xs[i]
    rw [List.foldlM_cons]
    cases f s xs[i] <;> rfl
theorem fm_none {α σ : Type} (f : σ → α → Option σ) {xs : List α} {i : Nat} {a : σ} (h : (xs.take i).foldlM f a = none) : xs.foldlM f a = none := by
  rw [← List.take_append_drop i xs, List.foldlM_append, h]
  rfl
def riseStep (last c : Int) : Option Int := if c ≤ last then none else some c
/-- The last of rising cuts. -/
def riseF (cuts : List Int) : Option Int := cuts.foldlM riseStep 0
def layErr (n : Int) (cuts : List Int) : Int := if n < 0 ∨ 16777216 < n then 41 else match riseF cuts with
  | none => 100
  | some l => if l ≠ n ∨ 1000 < cuts.length then 100 else 0
/-! ### walks -/
/-- append(v, l...) of numbers that lie elsewhere, or of none. -/
theorem app_ints {P : Program} {ops : Array Oper} {rest : List Oper} {o : Oper} {a : Act} {Q : Exit → Act → World → Prop} {w : World} (B : Nat) (hgd : o.guard = none) (s x : Operand) (t e : TypeId) (z : Value) (bytes : Nat)
    (ho : o.op = .call { callee := .builtin .append, args := #[s, x], argTypes := #[t, t] })
    (ht : P.underlying t = some (.slice e)) (hinfo : (P.info? e).map (fun i => (i.zero, i.size, i.bytes)) = some (some z, 1, bytes)) (hz : z.cells.size = 1)
    (v : Value) (n : Nat) (xs : List Value) (hs : a.eval s = v) (HO : w.ownsRow B e 1 v n xs) (hbase : B ≤ w.heap.size) {ok : Nat → Prop} {A : Option Addr} {c : Nat} {l : List Int} (hx : a.eval x = .slice A l.length c) (hl : Sl kint w ok (.slice A l.length c) l) (hmax : n + l.length ≤ maxLen) (hb : (n + l.length) * bytes ≤ 140737488355328)
    (h : ∀ v1 w1, w1.ownsRow B e 1 v1 (n + l.length) (xs ++ ints l) → w.grownBy w1 v.ownBlock → wpList P ops Q rest (a.put o.dst v1) w1) : wpList P ops Q (o :: rest) a w := by
  obtain ⟨i0, hi, hz0, hz1, hz2⟩ := info_parts hinfo
  by_cases h0 : 0 < l.length
  · obtain ⟨b, o', cs, e1, _⟩ := hl.at 0 h0
    subst e1
    refine wpList_append_own_at w hgd s x t ho B e i0 z 1 bytes ht hi hz0 hz1 hz2 hz (by decide) v n xs hs HO ⟨b, o', none⟩ l.length c (ints l) hx (by simp [ints]) (fun j u hu => ?_) (by simp [ints, Value.oneCell']) hmax hb hbase ?_
    · have hj : j < l.length := by have := (List.getElem?_eq_some_iff.1 hu).1; simpa [ints] using this
      obtain ⟨b2, o2, e2, k⟩ := hl.int j hj
      cases e2
      rw [addr_add, k]
      simpa [ints, hj] using hu
    · intro v1 w1 hown hg _ _
      exact h v1 w1 hown hg
  · have hl0 : l = [] := List.eq_nil_of_length_eq_zero (by omega)
    subst hl0
    have hv : ∃ ba cap, v = .slice ba n cap ∧ n ≤ cap := by
      rcases HO.2 with ⟨rfl, rfl⟩ | ⟨g, cap, cur, rfl, _, _, hle, _⟩
      · exact ⟨none, 0, rfl, Nat.le_refl _⟩
      · exact ⟨_, _, rfl, hle⟩
    obtain ⟨ba, cap, rfl, hle⟩ := hv
    refine wpList_plain hgd fun K hK => ?_
    have hr : (Builtin.append_ #[t, t] o.type #[.slice ba n cap, .slice A 0 c]).run P w = .ok (.slice ba n cap) w := by
      cases ba <;> cases A <;> simp [Builtin.append_, Builtin.lenOf, Builtin.firstCells, run_underlying ht, sizeOf, typeInfo, hi, hle, storeCells, loadCells, loadCellsFrom]
    unfold Oper.wp execOp
    simp only [ho, resolve, invoke, builtin, Sem.run_bind, Sem.run_pure, Result.andThen_ok, List.map_toArray, List.map_cons, List.map_nil, hs, hx, List.length_nil, hr]
    exact hK _ _ (h _ _ (by simpa [ints] using HO) ⟨rfl, rfl, rfl, Nat.le_refl _, fun _ _ _ => rfl⟩)
def NewPost (w : World) (n : Int) (cuts : List Int) (e : Ending) (w' : World) : Prop := (∃ p, e = .returned (.tuple #[p, .int .i64 (layErr n cuts)])) ∧ Below w.heap.size w w'
set_option maxHeartbeats 4000000 in
set_option maxRecDepth 100000 in
theorem layNew_any {w : World} {ok : Nat → Prop} {v : Value} {cuts : List Int} {n : Int} (hs : Sl kint w ok v cuts) (hl : cuts.length ≤ 16777216) :
    Calls Tryz.prog 77 #[.int .i64 n, v] w (NewPost w n cuts) := by
  obtain ⟨A, c, rfl, hc, hm⟩ := hs.slice
  have HB0 := Aside.mk (Below.refl w.heap.size w)
  by_cases h0 : n < 0
  · have HP : Aside (NewPost w n cuts (.returned (.tuple #[.pointer none, .int .i64 41])) w) := ⟨⟨_, by rw [layErr, if_pos (.inl h0)]⟩, HB0.out⟩
    clear hs
    go_enter Tryz.func77, Tryz.ntmps77
    go_wp2
    go_ret2
    exact HP.out
  have h0' : 0 ≤ n := by omega
  by_cases h1 : 16777216 < n
  · have HP : Aside (NewPost w n cuts (.returned (.tuple #[.pointer none, .int .i64 41])) w) := ⟨⟨_, by rw [layErr, if_pos (.inr h1)]⟩, HB0.out⟩
    clear hs h0
    go_enter Tryz.func77, Tryz.ntmps77
    go_wp2
    go_ret2
    exact HP.out
  have HE : Aside (layErr n cuts = match riseF cuts with
    | none => 100
    | some l => if l ≠ n ∨ 1000 < cuts.length then 100 else 0) := ⟨by rw [layErr, if_neg (by omega)]⟩
  have HS := Aside.mk hs
  have HR0 : Aside ((cuts.take 0).foldlM riseStep 0 = some 0) := ⟨rfl⟩
  have f0 : decide (n < 0) = false := decide_eq_false h0
  have f1 : decide (16777216 < n) = false := decide_eq_false h1
  clear hs h0 h1 h0'
  go_enter Tryz.func77, Tryz.ntmps77
  go_wp2
  go_loopg [6, 17] cuts.length (fun kq v6 v17 wr => ∃ (i : Nat) (last : Int), Aside (i + kq = cuts.length) ∧ v17 = .int .i64 i ∧ v6 = .int .i64 last ∧ Aside ((cuts.take i).foldlM riseStep 0 = some last) ∧ Aside (Below w.heap.size w wr))
  case atStart => exact ⟨0, 0, ⟨by omega⟩, rfl, rfl, HR0, HB0⟩
  case round =>
    clear HR0 HB0
    obtain ⟨i, last, HI, rfl, rfl, HR, HB⟩ := hrel
    by_cases hi : i < cuts.length
    · obtain ⟨b, o, e, k0⟩ := (HS.out.below HB.out).int i hi
      cases e
      have HM : Aside (cuts.length - (i + 1) < gk ∧ i + 1 + (cuts.length - (i + 1)) = cuts.length) := ⟨by have := HI.out; omega⟩
      have hT := fm_take riseStep hi 0
      rw [HR.out, Option.bind_some] at hT
      have HT := Aside.mk hT
      have HNo := Aside.mk (fun h => fm_none riseStep (xs := cuts) (i := i + 1) (a := 0) h)
      clear hT
      generalize cuts[i] = x at *
      by_cases hx : x ≤ last
      · have hp : layErr n cuts = 100 := by
          rw [HE.out, show riseF cuts = none from HNo.out (by rw [HT.out, riseStep, if_pos hx])]
        have HP : Aside (NewPost w n cuts (.returned (.tuple #[.pointer none, .int .i64 100])) wr) := ⟨⟨_, by rw [hp]⟩, HB.out⟩
        clear hp
        go_wp2
        go_ret2
        exact HP.out
      · have HT2 : Aside ((cuts.take (i + 1)).foldlM riseStep 0 = some x) := ⟨by rw [HT.out, riseStep, if_neg hx]⟩
        replace hx : last < x := by omega
        go_wp2
        go_roundg (cuts.length - (i + 1))
        case measure => exact HM.out.1
        case rel => exact ⟨i + 1, x, ⟨HM.out.2⟩, by go_num, rfl, HT2, HB⟩
    · have ht : cuts.take i = cuts := List.take_of_length_le (by omega)
      have hR : riseF cuts = some last := by have := HR.out; rw [ht] at this; exact this
      have hE := HE.out
      rw [hR] at hE
      simp only at hE
      have HE2 := Aside.mk hE
      replace hi : cuts.length ≤ i := by omega
      clear ht HR hR hE HE
      by_cases hn : last = n
      · by_cases hc2 : 1000 < cuts.length
        · have HP : Aside (NewPost w n cuts (.returned (.tuple #[.pointer none, .int .i64 100])) wr) := ⟨⟨_, by rw [HE2.out, if_pos (.inr hc2)]⟩, HB.out⟩
          have g1 : (last == n) = true := by simpa using hn
          have g2 : (last != n) = false := by simpa using hn
          clear hn
          go_wp2
          go_ret2
          exact HP.out
        · have hp : layErr n cuts = 0 := by rw [HE2.out, if_neg (by omega)]
          have HP : Aside (∀ p w', Below w.heap.size w w' → NewPost w n cuts (.returned (.tuple #[p, .int .i64 0])) w') := ⟨fun p w' hb => ⟨⟨p, by rw [hp]⟩, hb⟩⟩
          have g1 : (last == n) = true := by simpa using hn
          have g2 : (last != n) = false := by simpa using hn
          replace hc2 : cuts.length ≤ 1000 := by omega
          clear hn hp
          obtain ⟨i0, hi0, hz0, hz1, hz2⟩ := info_parts Tryz.infoInt
          have hmk := run_make (P := Tryz.prog) wr 30 3 i0 _ Tryz.underlying30 hi0 hz0 .i64 .i64 0 cuts.length (by omega) (by omega) (by rw [hz2]; omega) (by omega)
          rw [hz1, Int.toNat_natCast] at hmk
          have HR0 : Aside ((wr.alloc (.cells (madeCells #[.int .i64 0] cuts.length) 3)).ownsRow wr.heap.size 3 1 (.slice (some ⟨wr.heap.size, 0, none⟩) 0 cuts.length) 0 []) := ⟨World.ownsRow_made wr _ cuts.length (Nat.le_refl _) (by simp only [maxLen]; omega) (by rw [size_madeCells]; omega)⟩
          have ba := (Below.refl wr.heap.size wr).alloc (Nat.le_refl _) (.cells (madeCells #[.int .i64 0] cuts.length) 3)
          have HBa := Aside.mk (bthen HB.out HB.out.size ba)
          have HSa := Aside.mk ((HS.out.below HB.out).below ba)
          clear hi0 hz0 hz1 hz2 ba
          go_wp2_with (at_builtin; go_must (refine app_ints wr.heap.size rfl _ _ 30 3 (.int .i64 0) 8 rfl Tryz.underlying30 Tryz.infoInt rfl _ 0 _ rfl HR0.out (by simp) rfl HSa.out (by simp only [maxLen]; omega) (by omega) ?_; intro v1 w6 hown hg6; have HB6 := Aside.mk (HBa.out.grown hg6 HBa.out.size fun q e => Nat.le_trans HB.out.size (HR0.out.lt q e).1); obtain ⟨A1, m1, c1, rfl⟩ := own_slice hown; clear hown hg6))
          go_ret2
          exact HP.out _ _ (HB6.out.alloc HB6.out.size _)
      · have HP : Aside (NewPost w n cuts (.returned (.tuple #[.pointer none, .int .i64 100])) wr) := ⟨⟨_, by rw [HE2.out, if_pos (.inl hn)]⟩, HB.out⟩
        have g1 : (last == n) = false := by simpa using hn
        have g2 : (last != n) = true := by simpa using hn
        clear hn
        go_wp2
        go_ret2
        exact HP.out
def RefNewPost (w : World) (n : Int) (cuts : List Int) (e : Ending) (w' : World) : Prop :=
  ((layErr n cuts = 0 → ∃ v, e = .returned (.tuple #[v, .int .i64 0]) ∧ w'.ownsRow w.heap.size 3 1 v cuts.length (ints cuts)) ∧ (layErr n cuts ≠ 0 → e = .returned (.tuple #[.slice none 0 0, .int .i64 (layErr n cuts)]))) ∧ Below w.heap.size w w'
theorem refNew_bad {w w' : World} {n k : Int} {cuts : List Int} (h : layErr n cuts = k) (hk : k ≠ 0) (hb : Below w.heap.size w w') : RefNewPost w n cuts (.returned (.tuple #[.slice none 0 0, .int .i64 k])) w' :=
  ⟨⟨fun e => absurd (h.symm.trans e) hk, fun _ => by rw [h]⟩, hb⟩
set_option maxHeartbeats 4000000 in
set_option maxRecDepth 100000 in
theorem refNew_any {w : World} {ok : Nat → Prop} {v : Value} {cuts : List Int} {n : Int} (hs : Sl kint w ok v cuts) (hl : cuts.length ≤ 16777216) :
    Calls Tryz.prog 82 #[.int .i64 n, v] w (RefNewPost w n cuts) := by
  obtain ⟨A, c, rfl, hc, hm⟩ := hs.slice
  have HB0 := Aside.mk (Below.refl w.heap.size w)
  by_cases h0 : n < 0
  · have HP : Aside (RefNewPost w n cuts (.returned (.tuple #[.slice none 0 0, .int .i64 41])) w) := ⟨refNew_bad (by rw [layErr, if_pos (.inl h0)]) (by decide) HB0.out⟩
    clear hs
    go_enter Tryz.func82, Tryz.ntmps82
    go_wp2
    go_ret2
    exact HP.out
  have h0' : 0 ≤ n := by omega
  by_cases h1 : 16777216 < n
  · have HP : Aside (RefNewPost w n cuts (.returned (.tuple #[.slice none 0 0, .int .i64 41])) w) := ⟨refNew_bad (by rw [layErr, if_pos (.inr h1)]) (by decide) HB0.out⟩
    clear hs h0
    go_enter Tryz.func82, Tryz.ntmps82
    go_wp2
    go_ret2
    exact HP.out
  have HE : Aside (layErr n cuts = match riseF cuts with
    | none => 100
    | some l => if l ≠ n ∨ 1000 < cuts.length then 100 else 0) := ⟨by rw [layErr, if_neg (by omega)]⟩
  have HS := Aside.mk hs
  have HR0 : Aside ((cuts.take 0).foldlM riseStep 0 = some 0) := ⟨rfl⟩
  have f0 : decide (n < 0) = false := decide_eq_false h0
  have f1 : decide (16777216 < n) = false := decide_eq_false h1
  clear hs h0 h1 h0'
  go_enter Tryz.func82, Tryz.ntmps82
  go_wp2
  go_loopg [6, 7] cuts.length (fun kq v6 v7 wr => ∃ (i : Nat) (last : Int), Aside (i + kq = cuts.length) ∧ v7 = .int .i64 i ∧ v6 = .int .i64 last ∧ Aside ((cuts.take i).foldlM riseStep 0 = some last) ∧ Aside (Below w.heap.size w wr))
  case atStart => exact ⟨0, 0, ⟨by omega⟩, rfl, rfl, HR0, HB0⟩
  case round =>
    clear HR0 HB0
    obtain ⟨i, last, HI, rfl, rfl, HR, HB⟩ := hrel
    by_cases hi : i < cuts.length
    · obtain ⟨b, o, e, k0⟩ := (HS.out.below HB.out).int i hi
      cases e
      have HM : Aside (cuts.length - (i + 1) < gk ∧ i + 1 + (cuts.length - (i + 1)) = cuts.length) := ⟨by have := HI.out; omega⟩
      have hT := fm_take riseStep hi 0
      rw [HR.out, Option.bind_some] at hT
      have HT := Aside.mk hT
      have HNo := Aside.mk (fun h => fm_none riseStep (xs := cuts) (i := i + 1) (a := 0) h)
      clear hT
      generalize cuts[i] = x at *
      by_cases hx : x ≤ last
      · have HP : Aside (RefNewPost w n cuts (.returned (.tuple #[.slice none 0 0, .int .i64 100])) wr) := ⟨refNew_bad (by
          rw [HE.out, show riseF cuts = none from HNo.out (by rw [HT.out, riseStep, if_pos hx])]) (by decide) HB.out⟩
        go_wp2
        go_ret2
        exact HP.out
      · have HT2 : Aside ((cuts.take (i + 1)).foldlM riseStep 0 = some x) := ⟨by rw [HT.out, riseStep, if_neg hx]⟩
        replace hx : last < x := by omega
        go_wp2
        go_roundg (cuts.length - (i + 1))
        case measure => exact HM.out.1
        case rel => exact ⟨i + 1, x, ⟨HM.out.2⟩, by go_num, rfl, HT2, HB⟩
    · have ht : cuts.take i = cuts := List.take_of_length_le (by omega)
      have hR : riseF cuts = some last := by have := HR.out; rw [ht] at this; exact this
      have hE := HE.out
      rw [hR] at hE
      simp only at hE
      have HE2 := Aside.mk hE
      replace hi : cuts.length ≤ i := by omega
      clear ht HR hR hE HE
      by_cases hn : last = n
      · by_cases hc2 : 1000 < cuts.length
        · have HP : Aside (RefNewPost w n cuts (.returned (.tuple #[.slice none 0 0, .int .i64 100])) wr) := ⟨refNew_bad (by rw [HE2.out, if_pos (.inr hc2)]) (by decide) HB.out⟩
          have g1 : (last == n) = true := by simpa using hn
          have g2 : (last != n) = false := by simpa using hn
          clear hn
          go_wp2
          go_ret2
          exact HP.out
        · have hp : layErr n cuts = 0 := by rw [HE2.out, if_neg (by omega)]
          have HP : Aside (∀ v w', w'.ownsRow w.heap.size 3 1 v cuts.length (ints cuts) → Below w.heap.size w w' → RefNewPost w n cuts (.returned (.tuple #[v, .int .i64 0])) w') := ⟨fun v w' ho hb => ⟨⟨fun _ => ⟨v, rfl, ho⟩, fun e => absurd hp e⟩, hb⟩⟩
          have g1 : (last == n) = true := by simpa using hn
          have g2 : (last != n) = false := by simpa using hn
          replace hc2 : cuts.length ≤ 1000 := by omega
          have hcall := Ints_any (HS.out.below HB.out) (by omega : cuts.length ≤ 16777216)
          clear hn hp
          go_wp2_with fail
          refine hcall.mono ?_
          clear hcall
          rintro e w6 ⟨v6, rfl, ho, B6⟩
          have HB6 := Aside.mk (bthen HB.out HB.out.size B6)
          have HO6 := Aside.mk (own_low ho HB.out.size)
          obtain ⟨A6, m6, c6, rfl⟩ := own_slice ho
          clear ho B6
          go_wp2
          go_ret2
          exact HP.out _ _ HO6.out HB6.out
      · have HP : Aside (RefNewPost w n cuts (.returned (.tuple #[.slice none 0 0, .int .i64 100])) wr) := ⟨refNew_bad (by rw [HE2.out, if_pos (.inl hn)]) (by decide) HB.out⟩
        have g1 : (last == n) = false := by simpa using hn
        have g2 : (last != n) = true := by simpa using hn
        clear hn
        go_wp2
        go_ret2
        exact HP.out
end Go.Proofs.YtgbladpoglhleaaGreatDoor
