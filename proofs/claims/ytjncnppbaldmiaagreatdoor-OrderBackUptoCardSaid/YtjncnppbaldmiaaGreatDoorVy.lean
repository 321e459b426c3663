/- varint's reader walked: NewReader, Left, Int, Err. No condition. -/
import Derived.Test.YtjncnppbaldmiaaGreatDoorFm
import Derived.Lib.MinMax
import Derived.RangeFuncNested
import Derived.RangeFuncBound
import Derived.RangeFuncCalls
import Derived.RangeFuncLeaves
import Derived.OwnWalkIn
import Derived.TacticsInMore
import Derived.LoopNIn
import Derived.LoopIn
import Derived.Sort.LoopGhostIn
import Derived.Sort.CutIn
import Derived.Maps.OwnIn
import Derived.Test.YtjncnppbaldmiaaGreatDoorB
import Derived.OrdersHeld
import Derived.StillTail
namespace Go.Proofs.YtjncnppbaldmiaaGreatDoor
section
open Go.RowKit
theorem or_low (x d : Nat) (hx : x < 72057594037927936) (hd : d < 128) : bits .or .i64 ((x : Int) * 128) (d : Int) = ((x * 128 + d : Nat) : Int) := by
  have e : ((x : Int) * 128) = ((x * 128 : Nat) : Int) := by omega
  have h1 : (BitVec.ofInt 64 ((x * 128 : Nat) : Int)).toNat = x * 128 := by
    rw [BitVec.ofInt_natCast, BitVec.toNat_ofNat]; exact Nat.mod_eq_of_lt (by omega)
  have h2 : (BitVec.ofInt 64 (d : Int)).toNat = d := by
    rw [BitVec.ofInt_natCast, BitVec.toNat_ofNat]; exact Nat.mod_eq_of_lt (by omega)
  have h3 : x * 128 ||| d = x * 128 + d := by
    have h := Nat.two_pow_add_eq_or_of_lt (i := 7) (b := d) (by omega) x
    rw [show 2 ^ 7 * x = x * 128 by omega] at h
    exact h.symm
  rw [e]
  show IntKind.i64.wrap ((BitVec.ofInt 64 ((x * 128 : Nat) : Int) ||| BitVec.ofInt 64 (d : Int)).toNat : Int) = _
  rw [BitVec.toNat_or, h1, h2, h3]
  exact Go.IntWalk.i64_in _ (by omega)
def FormPost (w : World) (bs : List UInt8) (e : Ending) (w' : World) : Prop := w' = w ∧
    ((∀ x n, vread bs = some (x, n) → e = .returned (.tuple #[.int .i64 (x : Nat), .int .i64 (n : Nat), .int .i64 0])) ∧ (vread bs = none → ∃ c : Int, c ≠ 0 ∧ e = .returned (.tuple #[.int .i64 0, .int .i64 0, .int .i64 c])))
theorem form_no {w : World} {bs : List UInt8} {c : Int} (h : vread bs = none) (hc : c ≠ 0) : FormPost w bs (.returned (.tuple #[.int .i64 0, .int .i64 0, .int .i64 c])) w :=
  ⟨rfl, (fun x n e => by rw [h] at e; cases e), fun _ => ⟨c, hc, rfl⟩⟩
theorem form_yes {w : World} {bs : List UInt8} {x n : Nat} (h : vread bs = some (x, n)) : FormPost w bs (.returned (.tuple #[.int .i64 (x : Nat), .int .i64 (n : Nat), .int .i64 0])) w :=
  ⟨rfl, (fun x' n' e => by rw [h] at e; cases e; rfl), fun e => by rw [h] at e; cases e⟩
set_option maxHeartbeats 4000000 in
set_option maxRecDepth 100000 in
theorem form_any {w : World} {ok : Nat → Prop} {v : Value} {bs : List UInt8} (hs : Sl kbyte w ok v bs) : Calls Tryz.prog 77 #[v] w (FormPost w bs) := by
  obtain ⟨A, c, rfl, hc, hm⟩ := hs.slice
  by_cases h0 : bs.length = 0
  · obtain rfl := List.eq_nil_of_length_eq_zero h0
    have HP : ∀ c : Int, c ≠ 0 → Aside (FormPost w [] (.returned (.tuple #[.int .i64 0, .int .i64 0, .int .i64 c])) w) := fun c h => ⟨form_no rfl h⟩
    go_enter Tryz.func77, Tryz.ntmps77
    go_wp2_with fail
    go_loopg [5, 26] 0 (fun kq v5 v26 wr => v5 = .int .i64 0 ∧ v26 = .int .i64 0 ∧ wr = w)
    case atStart => exact ⟨rfl, rfl, rfl⟩
    case round =>
      obtain ⟨rfl, rfl, rfl⟩ := hrel
      go_wp2_with fail
      exact bodyPost_ret (by simp [results, Tryz.results77, go_sem]) rfl (HP 10 (by decide)).out
  · obtain ⟨b, o, rfl, k0⟩ := hs.byte 0 (by omega)
    rw [Nat.add_zero] at k0
    by_cases h1 : bs[0] = 128
    · have hno : vread bs = none := by
        unfold vread
        rw [if_pos (by rw [List.head?_eq_getElem?, List.getElem?_eq_getElem (by omega), h1])]
      have HP : ∀ c : Int, c ≠ 0 → Aside (FormPost w bs (.returned (.tuple #[.int .i64 0, .int .i64 0, .int .i64 c])) w) := fun c h => ⟨form_no hno h⟩
      have e1 : (((bs[0]).toNat : Int) == 128) = true := by rw [h1]; decide
      have hl : 0 < bs.length := by omega
      clear hno hs h1
      generalize bs[0] = c0 at *
      go_enter Tryz.func77, Tryz.ntmps77
      go_wp2_with fail
      exact bodyPost_ret (by simp [results, Tryz.results77, go_sem]) rfl (HP 11 (by decide)).out
    · have e1 : (((bs[0]).toNat : Int) == 128) = false := by
        refine beq_false_of_ne fun e => h1 ?_
        have : (bs[0]).toNat = (128 : UInt8).toNat := by rw [show (128 : UInt8).toNat = 128 from rfl]; omega
        exact UInt8.toNat_inj.1 this
      have hv : vread bs = vgo 9 0 0 bs := by
        unfold vread
        rw [if_neg]
        rw [List.head?_eq_getElem?, List.getElem?_eq_getElem (by omega)]
        intro e
        exact h1 (Option.some.inj e)
      have hl : 0 < bs.length := by omega
      have HS := Aside.mk hs
      have HV0 : Aside (vread bs = vgo (9 - 0) 0 0 (bs.drop 0)) := ⟨hv⟩
      obtain ⟨L, hL⟩ : ∃ L, L = min bs.length 9 := ⟨_, rfl⟩
      have hmin : min (bs.length : Int) 9 = (L : Int) := by omega
      have HL := Aside.mk hL
      have hL1 : L ≤ bs.length := by omega
      have hL2 : L ≤ 9 := by omega
      have hLc : L ≤ c := by omega
      clear hs h1 hv hL
      generalize bs[0] = c0 at *
      clear h0
      go_enter Tryz.func77, Tryz.ntmps77
      go_wp2_with fail
      go_loopg [5, 26] L (fun kq v5 v26 wr => ∃ (i x : Nat), Aside (i + kq = L) ∧ v26 = .int .i64 i ∧ v5 = .int .i64 x ∧ Aside (x < 128 ^ i) ∧ Aside (vread bs = vgo (9 - i) x i (bs.drop i)) ∧ wr = w)
      case atStart => exact ⟨0, 0, ⟨by omega⟩, rfl, rfl, ⟨by simp⟩, HV0, rfl⟩
      case round =>
        clear k0 HV0 e1
        obtain ⟨i, x, HI, rfl, rfl, HX, HV, rfl⟩ := hrel
        by_cases hi : i < L
        · have hib : i < bs.length := by omega
          obtain ⟨b', o', e, k0⟩ := HS.out.byte i hib
          cases e
          have hxb : x < 72057594037927936 := by
            have h1 := HX.out
            have h2 : 128 ^ i ≤ 128 ^ 8 := Nat.pow_le_pow_right (by omega) (by omega)
            have h3 : (128 : Nat) ^ 8 = 72057594037927936 := by decide
            omega
          have hd : bs.drop i = bs[i] :: bs.drop (i + 1) := List.drop_eq_getElem_cons hib
          have hg : 9 - i = (9 - (i + 1)) + 1 := by omega
          have hstep : vread bs = if (bs[i]).toNat < 128 then some (x * 128 + (bs[i]).toNat, i + 1) else vgo (9 - (i + 1)) (x * 128 + (bs[i]).toNat % 128) (i + 1) (bs.drop (i + 1)) := by
            rw [HV.out, hd, hg, vgo]
          have hc8 : (bs[i]).toNat < 256 := (bs[i]).toNat_lt
          generalize bs[i] = ci at *
          obtain ⟨cn, hcn⟩ : ∃ cn, cn = ci.toNat := ⟨_, rfl⟩
          rw [← hcn] at hstep hc8 k0
          have hM : Aside (L - (i + 1) < gk ∧ i + 1 + (L - (i + 1)) = L) := ⟨by have := HI.out; omega⟩
          have ha := and127 cn hc8
          have hor := or_low x (cn % 128) hxb (Nat.mod_lt _ (by decide))
          have hor2 : bits .or .i64 ((x : Int) * 128) ((cn : Int) % 128) = ((x * 128 + cn % 128 : Nat) : Int) := by rw [← hor]; simp
          have hiL : (i : Int) < (L : Int) := by omega
          have hi0 : (0 : Int) ≤ (i : Int) := by omega
          by_cases h128 : cn < 128
          · rw [if_pos h128] at hstep
            have e2 : decide ((cn : Int) < 128) = true := decide_eq_true (by omega)
            have HP : Aside (FormPost wr bs (.returned (.tuple #[.int .i64 ((x : Int) * 128 + (cn : Int)), .int .i64 ((i : Int) + 1), .int .i64 0])) wr) := ⟨by have h := form_yes (w := wr) hstep; simpa using h⟩
            have hmod : cn % 128 = cn := Nat.mod_eq_of_lt h128
            rw [hmod] at ha hor hor2
            clear hmod hstep hd hg hcn h128
            go_wp2_with fail
            exact bodyPost_ret (by simp [results, Tryz.results77, go_sem]) rfl HP.out
          · rw [if_neg h128] at hstep
            have e2 : decide ((cn : Int) < 128) = false := decide_eq_false (by omega)
            have HV1 := Aside.mk hstep
            have HX1 : Aside (x * 128 + cn % 128 < 128 ^ (i + 1)) := ⟨by
              have h1 := HX.out
              have h2 := Nat.mod_lt cn (show 0 < 128 by decide)
              rw [Nat.pow_succ]
              omega⟩
            clear hstep hd hg hcn h128
            go_wp2_with fail
            go_roundg (L - (i + 1))
            case measure => exact hM.out.1
            case rel => exact ⟨i + 1, x * 128 + cn % 128, ⟨hM.out.2⟩, by go_num, by first | rfl | go_num, HX1, HV1, rfl⟩
        · have hie : i = L := by have := HI.out; omega
          have hno : vread bs = none := by
            rw [HV.out]
            have := HL.out
            rcases Nat.lt_or_ge bs.length 9 with h | h
            · rw [List.drop_eq_nil_of_le (by omega)]
              obtain ⟨g, hg⟩ : ∃ g, 9 - i = g + 1 := ⟨8 - i, by omega⟩
              rw [hg, vgo]
            · rw [show 9 - i = 0 by omega, vgo]
          have HP : ∀ c : Int, c ≠ 0 → Aside (FormPost wr bs (.returned (.tuple #[.int .i64 0, .int .i64 0, .int .i64 c])) wr) := fun c h => ⟨form_no hno h⟩
          have hiL : ¬ ((i : Int) < (L : Int)) := by omega
          clear HV HX HI HL hno
          by_cases h9 : 9 ≤ bs.length
          · have f9 : decide ((9 : Int) ≤ (bs.length : Int)) = true := decide_eq_true (by omega)
            go_wp2_with fail
            exact bodyPost_ret (by simp [results, Tryz.results77, go_sem]) rfl (HP 12 (by decide)).out
          · have f9 : decide ((9 : Int) ≤ (bs.length : Int)) = false := decide_eq_false (by omega)
            go_wp2_with fail
            exact bodyPost_ret (by simp [results, Tryz.results77, go_sem]) rfl (HP 10 (by decide)).out
end
section
section
open Go.RowKit
attribute [local go_sem] Oper.semAt_some
def Stay (L : Nat → Prop) (W W' : World) : Prop := ∀ q, L q → q < W.heap.size → W'.heap[q]? = W.heap[q]? ∧ q < W'.heap.size
/-- How a round of the body is left: it goes on. -/
def onPost (B : Nat) (Kp : World → World → Prop) (I : Nat → World → Prop) (k : Nat) (W : World) : Exit → Act → World → Prop
  | .normal, _, W' => KeepsFrom B W W' ∧ Kp W W' ∧ I k W'
  | _, _, _ => False
theorem chunk_any (A : Option Addr) (n c : Nat) (w : World) : Calls Tryz.prog 29 #[.slice A n c, .int .i64 200] w fun e w' => e = .returned (.func (.func 69) #[] #[.pointer (some ⟨w.heap.size, 0, none⟩), .pointer (some ⟨w.heap.size + 1, 0, none⟩)]) ∧ w' = (w.alloc (.cells #[.slice A n c] 22)).alloc (.cells #[.int .i64 200] 3) := by
  go_enter Tryz.func29, Tryz.ntmps29
  go_wp2
  go_ret
  exact ⟨by simp, rfl⟩
/-- How many chunks. -/
def cnt (n : Nat) : Nat := (n + 199) / 200
def chunkV (b o n j : Nat) : Value := .slice (some ⟨b, o + 200 * j, none⟩) (min 200 (n - 200 * j)) (min 200 (n - 200 * j))
set_option maxRecDepth 100000 in
set_option maxHeartbeats 2000000 in
theorem chunk_in (F : Fence) (n : Nat) (hf : F.fn 69) (hro : F.round = none) (hn : 1 ≤ n) (l Bs Bn : Nat) (L : Nat → Prop) (hL : L Bs) (hLn : L Bn) (A : Option Addr) (b o m c : Nat) (hA : 0 < m → A = some ⟨b, o, none⟩) (hm : m ≤ 16777216) (hmc : m ≤ c) (J : Nat → World → Prop) (hJd : ∀ k W, J k W → J k W.drew)
    (hY : ∀ k W, k < cnt m → J k W → YieldAt F (n - 1) Tryz.prog l #[chunkV b o m k] W fun e W' => e = .returned (.bool true) ∧ J (k + 1) W' ∧ Stay L W W')
    (W : World) (hBs : W.cell? ⟨Bs, 0, none⟩ = some (.slice A m c)) (hBn : W.cell? ⟨Bn, 0, none⟩ = some (.int .i64 200)) (h0 : J 0 W) :
    CallsIn F n Tryz.prog 69 #[.func (.yield l) #[] #[], .pointer (some ⟨Bs, 0, none⟩), .pointer (some ⟨Bn, 0, none⟩)] W fun e W' => (∃ v, e = .returned v) ∧ J (cnt m) W' := by
  refine callsIn_of_wp Tryz.func69 rfl hf ?_ hro
  simp only [Tryz.ntmps69, List.size_toArray, List.length_cons, List.length_nil, Nat.reduceAdd, Nat.reduceSub, Array.replicate_succ, Array.replicate_zero, List.push_toArray, List.append_toArray, List.nil_append, List.cons_append]
  gi_wp2
  gi_loopw [4] (fun i wr => ∃ r : Nat, r ≤ cnt m ∧ i = .int .i64 (200 * (r : Int)) ∧ J r wr ∧ Stay L W wr)
    (fun i _ => match i with | .int _ q => (200 * (cnt m : Int) - q).toNat | _ => 0)
  case atStart => exact ⟨0, Nat.zero_le _, by go_num, h0, fun q _ hq => ⟨rfl, hq⟩⟩
  case round =>
    obtain ⟨r, hr, rfl, hJs, hnx⟩ := hrel
    have hBl : Bs < W.heap.size := by
      unfold World.cell? at hBs
      cases hh : W.heap[Bs]? with
      | none => simp [hh] at hBs
      | some o => exact blk_lt hh
    have hBm : Bn < W.heap.size := by
      unfold World.cell? at hBn
      cases hh : W.heap[Bn]? with
      | none => simp [hh] at hBn
      | some o => exact blk_lt hh
    have hBw : wr.cell? ⟨Bs, 0, none⟩ = some (.slice A m c) := (World.cell?_of_block (hnx Bs hL hBl).1).trans hBs
    have hBx : wr.cell? ⟨Bn, 0, none⟩ = some (.int .i64 200) := (World.cell?_of_block (hnx Bn hLn hBm).1).trans hBn
    by_cases hlt : r < cnt m
    · have h1 : 200 * r < m := by unfold cnt at hlt; omega
      obtain rfl := hA (by omega)
      obtain ⟨fn, tmps, assign, body, hy, hR⟩ := hY r wr.drew hlt (hJd r wr hJs)
      have hq : min (200 : Int) ((m - 200 * r : Nat) : Int) = ((min 200 (m - 200 * r) : Nat) : Int) := by omega
      have hcv : chunkV b o m r = .slice (some ⟨b, o + 200 * r, none⟩) (min 200 (m - 200 * r)) (min 200 (m - 200 * r)) := rfl
      have hq1 : 200 * r + min 200 (m - 200 * r) ≤ m := by omega
      have hq2 : min 200 (m - 200 * r) ≤ 200 := by omega
      have hq3 : 0 < min 200 (m - 200 * r) := by omega
      rw [hcv] at hy
      clear hcv
      gi_wp2
      gi_region
      all_goals (clear hq; generalize min 200 (m - 200 * r) = q at *)
      all_goals gi_wp2
      all_goals (refine hR.mono ?_; rintro e W3 ⟨rfl, hJ3, hk3⟩)
      all_goals (have hB3 : W3.cell? ⟨Bn, 0, none⟩ = some (.int .i64 200) := (World.cell?_of_block (hk3 Bn hLn (hnx Bn hLn hBm).2).1).trans hBx)
      all_goals gi_wp2
      all_goals go_roundw
      all_goals first
        | exact ⟨r + 1, by omega, by go_num, hJ3, fun q' hq' hlt' => ⟨((hk3 q' hq' (hnx q' hq' hlt').2).1).trans (hnx q' hq' hlt').1, (hk3 q' hq' (hnx q' hq' hlt').2).2⟩⟩
        | (simp; omega)
    · have hre : r = cnt m := by omega
      have h1 : m ≤ 200 * r := by unfold cnt at hre; omega
      rw [hre] at hJs
      have h2 : decide ((200 * (r : Int)) < (m : Int)) = false := decide_eq_false (by omega)
      gi_wp2
      go_end0
      exact ⟨⟨_, rfl⟩, hJs⟩
theorem chunk_known {F : Fence} {n : Nat} (hf : F.fn 69) (hro : F.round = none) (hn : 1 ≤ n) {Bs Bn : Nat} {L : Nat → Prop} (hL : L Bs) (hLn : L Bn) {A : Option Addr} {b o m c : Nat} (hA : 0 < m → A = some ⟨b, o, none⟩) (hm : m ≤ 16777216) (hmc : m ≤ c) {w : World}
    (hBs : w.cell? ⟨Bs, 0, none⟩ = some (.slice A m c)) (hBn : w.cell? ⟨Bn, 0, none⟩ = some (.int .i64 200))
    (l : Nat) (J : Nat → World → Prop) (W : World) (hb : Below w.heap.size w W) (hJd : ∀ k W, J k W → J k W.drew)
    (hY : ∀ k x W1, (List.range (cnt m))[k]? = some x → J k W1 → YieldAt F (n - 1) Tryz.prog l #[chunkV b o m x] W1 fun e W' => e = .returned (.bool true) ∧ J (k + 1) W' ∧ Stay L W1 W') (h0 : J 0 W) :
    CallsIn F n Tryz.prog 69 (#[.func (.yield l) #[] #[]] ++ #[.pointer (some ⟨Bs, 0, none⟩), .pointer (some ⟨Bn, 0, none⟩)]) W fun e W' => (∃ v, e = .returned v) ∧ J (List.range (cnt m)).length W' := by
  rw [List.length_range]
  exact chunk_in F n hf hro hn l Bs Bn L hL hLn A b o m c hA hm hmc J hJd (fun k W hk hJ => hY k k W (by rw [List.getElem?_range hk]) hJ) W (bcell hb hBs) (bcell hb hBn) h0
/-- 'range_known' where the function draws an order of evaluation: its invariant bears a draw. -/
theorem range_known_d {F : Fence} {n : Nat} {P : Program} {α : Type} {g : Operand} {ps : Array Tmp} {assign body : Code} {Q : Exit → Act → World → Prop} {a : Act} {w : World}
    (hro : F.round = none) (h1 : 1 ≤ n) {gf : Nat} {lb : Array Value} (hg : a.eval g = .func (.func gf) #[] lb) (hFg : F.fn gf) (eg : ∀ args w, (callFunc gf args).run P w = .ok (.enter gf args) w)
    {encs : α → Array Value} {Kp : World → World → Prop} (xs : List α)
    (hseq : ∀ (l : Nat) (J : Nat → World → Prop) (W : World), Below w.heap.size w W → (∀ k W, J k W → J k W.drew) →
      (∀ k x W1, xs[k]? = some x → J k W1 → YieldAt F (n - 1 - 1) P l (encs x) W1 fun e W' => e = .returned (.bool true) ∧ J (k + 1) W' ∧ Kp W1 W') → J 0 W →
      CallsIn F (n - 1) P gf (#[.func (.yield l) #[] #[]] ++ lb) W fun e W' => (∃ v, e = .returned v) ∧ J xs.length W')
    (hKt : ∀ {A B C : World}, Kp A B → Kp B C → Kp A C) (hKb : ∀ (W : World) (l : Nat) (o o' : Obj), w.heap.size ≤ l → W.heap[l]? = some o → o.isCells = false → Kp W (W.putObj l o')) (hps : ∀ x, (encs x).size = ps.size)
    (I : Nat → World → Prop) (hI : OwnFrom w.heap.size I) (h0 : I 0 w)
    (hround : ∀ (l k : Nat) (x : α) (W : World) (K : Act → World → Prop), xs[k]? = some x → (∀ a1, (∀ W2, I k W2 → w.heap.size ≤ W2.heap.size → body.wpIn (F.inRound l) (n - 1 - 1) P (onPost w.heap.size Kp I (k + 1) W2) a1 W2) → K a1 W) →
      assign.wpIn (F.inRound l) (n - 1 - 1) P (Exit.then K (fun _ _ _ => False)) { tmps := (ps.zip (encs x)).foldl (fun t (p, v) => t.setIfInBounds p v) a.tmps, defers := [] } W)
    (hdone : ∀ (D : Nat) (W : World), w.heap.size ≤ D → I xs.length W → W.heap[D]? = some (.deferred (some [])) → Q .normal { a with defers := { target := .collected D, args := #[] } :: a.defers } W) :
    (Code.rangeFunc g ps assign body).wpIn F n P Q a w := by
  refine wpIn_rangeFunc fun fn hfn => ?_
  rw [hro]
  let rc : LoopState → Loop := fun st => { state := st, pending := none, fn, tmps := a.tmps, params := ps, assign, body, defers := w.heap.size }
  have hn1 : (w.alloc (.deferred (some []))).heap.size = w.heap.size + 1 := World.size_alloc _ _
  generalize hW1 : (w.alloc (.deferred (some []))).alloc (.loop (rc .ready)) = W1
  have hL1 : W1.heap[w.heap.size + 1]? = some (.loop (rc .ready)) := by rw [← hW1, ← hn1]; exact World.alloc_heap_new _ _
  have hK1 : W1.heap[w.heap.size]? = some (.deferred (some [])) := by rw [← hW1]; exact (Below.heap_alloc _ _ _ (by omega)).trans (World.alloc_heap_new _ _)
  have hI1 : I 0 W1 := by rw [← hW1]; exact hI.alloc _ (hI.alloc _ h0)
  have hb1 : Below w.heap.size w W1 := by rw [← hW1]; exact ((Below.refl _ w).alloc (Nat.le_refl _) _).alloc (by omega) _
  refine ⟨w.heap.size + 1, [{ target := .collected w.heap.size, args := #[] }], W1, { target := .fn (.func gf) lb, args := #[.func (.yield (w.heap.size + 1)) #[] #[]] }, W1, gf, #[.func (.yield (w.heap.size + 1)) #[] #[]] ++ lb, W1, by rw [← hW1]; exact run_enterLoop_outer _ _ _ _ _, ?_, ?_, ?_, fun _ => h1, ?_⟩
  · simp only [resolve, hg]
    simp [go_sem]
  · intro f' hf'
    simp [Target.leads] at hf'
    subst hf'
    exact hFg
  · simp [invoke, go_sem, eg]
  · clear hW1
    let Bk : LoopState → Nat → World → Prop := fun st k W => I k W ∧ W.heap[w.heap.size + 1]? = some (.loop (rc st)) ∧ W.heap[w.heap.size]? = some (.deferred (some []))
    have put : ∀ (st st' : LoopState) (k : Nat) (W : World), Bk st k W → Bk st' k (W.putObj (w.heap.size + 1) (.loop (rc st'))) := fun st st' k W h =>
      ⟨hI.putObj _ h.1 (by omega) h.2.1 rfl, World.putObj_heap_same (blk_lt h.2.1), (World.putObj_heap_other (by omega)).trans h.2.2⟩
    refine (hseq (w.heap.size + 1) (Bk .ready) W1 hb1 (fun k W h => ⟨hI k W W.drew none h.1 ⟨rfl, rfl, rfl, Nat.le_refl _, fun _ _ _ => rfl⟩ (fun r e => by cases e), h.2.1, h.2.2⟩) ?_ ⟨hI1, hL1, hK1⟩).mono ?_
    · intro k x W hx hB
      have hB2 := put .ready .busy k W hB
      refine ⟨fn, _, assign, body, run_yield (P := P) (args := encs x) hB.2.1 (hps x), roundIn_of_wpIn hfn (hround _ k x W _ hx fun a1 hbody => ⟨_, run_beginRound hB.2.1 rfl, wpIn_mono (hbody _ hB2.1 (Nat.le_of_lt (blk_lt hB2.2.2))) ?_⟩)⟩
      intro e a3 W3 hp
      cases e with
      | normal =>
        obtain ⟨hk3, hkp3, hi3⟩ := hp
        have hB3 : Bk .busy (k + 1) W3 := ⟨hi3, hk3.same _ _ (by omega) hB2.2.1 rfl, hk3.same _ _ (Nat.le_refl _) hB2.2.2 rfl⟩
        have hB4 := put .busy .ready (k + 1) W3 hB3
        exact ⟨_, _, run_endRound (P := P) none hB3.2.1, rfl, hB4, hKt (hKt (hKb _ _ _ _ (by omega) hB.2.1 rfl) hkp3) (hKb _ _ _ _ (by omega) hB3.2.1 rfl)⟩
      | ret => exact hp.elim
      | exit id => exact hp.elim
      | goto t => exact hp.elim
      | panic ch => exact hp.elim
      | outgrown => exact hp.elim
    · rintro e W2 ⟨⟨v, rfl⟩, hB⟩
      have hB2 := put .ready .exhausted _ W2 hB
      exact ⟨none, _, run_endLoop (P := P) hB.2.1 (by simp [rc]), hdone _ _ (Nat.le_refl _) hB2.1 hB2.2.2⟩
end
section
open Go.RowKit
theorem ownsRow_cells {w : World} {B s n q : Nat} {e : TypeId} {v : Value} {xs : List Value} (h : w.ownsRow B e s v n xs) (hq : v.ownBlock = some q) : ∃ c, w.heap[q]? = some (.cells c e (0, 0)) := by
  rcases h.2 with ⟨rfl, _⟩ | ⟨g, cap, cur, rfl, _, hg, _⟩
  · cases hq
  · cases hq; exact ⟨cur, hg⟩
theorem cell_blk {w : World} {g j : Nat} {cs : Array Value} {t : TypeId} {u : Value} (h : w.heap[g]? = some (.cells cs t (0, 0))) (hj : cs[j]? = some u) : w.cell? ⟨g, j, none⟩ = some u := by
  rw [cell_of_row w g j cs t (0, 0) h]; exact hj
theorem Tryz.infoBytes : (Tryz.prog.info? 25).map (fun i => (i.zero, i.size, i.bytes)) = some (some (.slice none 0 0), 1, 24) := by kernel_rfl
theorem own_u8s {w : World} {B : Nat} {v : Value} {xs : List UInt8} (h : w.ownsRow B 5 1 v xs.length (u8s xs)) : Own kbyte 5 w B v xs := by
  refine ⟨_, h, fun i x hx => ?_⟩
  show _ = _
  obtain ⟨hl, he⟩ := List.getElem?_eq_some_iff.1 hx
  have e : (u8s xs).drop (i * kbyte.sz) = (u8s xs).drop i := by show (u8s xs).drop (i * 1) = _; rw [Nat.mul_one]
  rw [e]
  show ((u8s xs).drop i).take 1 = _
  rw [List.drop_eq_getElem_cons (by rw [u8s_length]; exact hl)]
  simp [u8s, he]
/-- A list of bytes' lists, all of it the call's own, from block lo on. -/
structure BL (w : World) (lo : Nat) (dv : Value) (vs : List Value) (bss : List (List UInt8)) : Prop where
  own : w.ownsRow lo 25 1 dv bss.length vs
  row : ∀ (i : Nat) (v : Value) (bs : List UInt8), vs[i]? = some v → bss[i]? = some bs → w.ownsRow lo 5 1 v bs.length (u8s bs)
  ne : ∀ (i : Nat) (v : Value) (q : Nat), vs[i]? = some v → v.ownBlock = some q → dv.ownBlock ≠ some q
theorem BL.len {w : World} {lo : Nat} {dv : Value} {vs : List Value} {bss : List (List UInt8)} (h : BL w lo dv vs bss) : vs.length = bss.length := by
  have := h.own.1
  omega
theorem BL.nil (w : World) (lo : Nat) : BL w lo (.slice none 0 0) [] [] := ⟨World.ownsRow_nil _ _ _ _, by simp, by simp⟩
theorem BL.move {w w1 : World} {lo : Nat} {dv : Value} {vs : List Value} {bss : List (List UInt8)} (h : BL w lo dv vs bss)
    (hm : ∀ q c t, lo ≤ q → w.heap[q]? = some (.cells c t (0, 0)) → (dv.ownBlock = some q ∨ ∃ (i : Nat) (v : Value), vs[i]? = some v ∧ v.ownBlock = some q) → w1.heap[q]? = w.heap[q]?) : BL w1 lo dv vs bss := by
  have hlen := h.len
  refine ⟨ownsRow_move h.own fun q e => ?_, fun i v bs hv hb => ownsRow_move (h.row i v bs hv hb) fun q e => ?_, h.ne⟩
  · obtain ⟨c, hq⟩ := ownsRow_cells h.own e
    exact hm q c _ (h.own.lt q e).1 hq (.inl e)
  · obtain ⟨c, hq⟩ := ownsRow_cells (h.row i v bs hv hb) e
    exact hm q c _ ((h.row i v bs hv hb).lt q e).1 hq (.inr ⟨i, v, hv, e⟩)
theorem BL.grown {w w1 : World} {lo : Nat} {dv : Value} {vs : List Value} {bss : List (List UInt8)} {row : Option Nat} (h : BL w lo dv vs bss) (hg : w.grownBy w1 row)
    (hr : ∀ q, row = some q → dv.ownBlock ≠ some q ∧ ∀ (i : Nat) (v : Value), vs[i]? = some v → v.ownBlock ≠ some q) : BL w1 lo dv vs bss :=
  h.move fun q c t _ hq hf => hg.block q (blk_lt hq) fun e => by
    rcases hf with hf | ⟨i, v, hv, hf⟩
    · exact (hr q e.symm).1 hf
    · exact (hr q e.symm).2 i v hv hf
theorem BL.below {w w1 : World} {lo : Nat} {dv : Value} {vs : List Value} {bss : List (List UInt8)} (h : BL w lo dv vs bss) (hb : Below w.heap.size w w1) : BL w1 lo dv vs bss :=
  h.move fun q _ _ _ hq _ => hb.block q (blk_lt hq)
theorem BL.low {w : World} {lo lo1 : Nat} {dv : Value} {vs : List Value} {bss : List (List UInt8)} (h : BL w lo dv vs bss) (hl : lo1 ≤ lo) : BL w lo1 dv vs bss :=
  ⟨own_low h.own hl, fun i v bs hv hb => own_low (h.row i v bs hv hb) hl, h.ne⟩
/-- One list more, behind the others. -/
theorem BL.snoc {w w1 : World} {lo : Nat} {dv dv1 v : Value} {vs : List Value} {bss : List (List UInt8)} {bs : List UInt8} (h : BL w lo dv vs bss) (hv : w.ownsRow lo 5 1 v bs.length (u8s bs)) (hne : ∀ q, v.ownBlock = some q → dv.ownBlock ≠ some q)
    (ho : w1.ownsRow lo 25 1 dv1 (bss.length + 1) (vs ++ [v])) (hg : w.grownBy w1 dv.ownBlock) (hm : Moved w dv dv1) : BL w1 lo dv1 (vs ++ [v]) (bss ++ [bs]) := by
  have hlen := h.len
  have hkeep : ∀ (u : Value) (ys : List UInt8), w.ownsRow lo 5 1 u ys.length (u8s ys) → (∀ q, u.ownBlock = some q → dv.ownBlock ≠ some q) → w1.ownsRow lo 5 1 u ys.length (u8s ys) := fun u ys hu hn =>
    ownsRow_move hu fun q e => hg.block q (hu.lt q e).2 fun e' => hn q e e'.symm
  have hnew : ∀ (u : Value) (ys : List UInt8), w.ownsRow lo 5 1 u ys.length (u8s ys) → (∀ q, u.ownBlock = some q → dv.ownBlock ≠ some q) → ∀ q, u.ownBlock = some q → dv1.ownBlock ≠ some q := fun u ys hu hn q e => by
    rcases hm with hm | ⟨k, hm, hk⟩
    · rw [hm]; exact hn q e
    · rw [hm]; intro e2; have := (hu.lt q e).2; have := Option.some.inj e2; omega
  refine ⟨by rw [List.length_append]; exact ho, fun i u ys hu hy => ?_, fun i u q hu e => ?_⟩
  · rcases Nat.lt_or_ge i vs.length with hi | hi
    · rw [List.getElem?_append_left hi] at hu
      rw [List.getElem?_append_left (by omega)] at hy
      exact hkeep u ys (h.row i u ys hu hy) fun q e => h.ne i u q hu e
    · have hi' : i < (vs ++ [v]).length := (List.getElem?_eq_some_iff.1 hu).1
      rw [List.length_append, List.length_singleton] at hi'
      have hie : i = vs.length := by omega
      subst hie
      rw [List.getElem?_append_right (Nat.le_refl _)] at hu
      rw [List.getElem?_append_right (by omega), hlen] at hy
      simp at hu hy
      subst hu
      subst hy
      exact hkeep _ _ hv hne
  · rcases Nat.lt_or_ge i vs.length with hi | hi
    · rw [List.getElem?_append_left hi] at hu
      have hb : bss[i]? = some bss[i] := List.getElem?_eq_getElem (by omega)
      exact hnew u _ (h.row i u _ hu hb) (fun q e => h.ne i u q hu e) q e
    · have hi' : i < (vs ++ [v]).length := (List.getElem?_eq_some_iff.1 hu).1
      rw [List.length_append, List.length_singleton] at hi'
      have hie : i = vs.length := by omega
      subst hie
      rw [List.getElem?_append_right (Nat.le_refl _)] at hu
      simp at hu
      subst hu
      exact hnew _ _ hv hne q e
theorem row_bytes {w : World} {lo : Nat} {v : Value} {bs : List UInt8} (h : w.ownsRow lo 5 1 v bs.length (u8s bs)) : Sl kbyte w (fun q => lo ≤ q ∧ v.ownBlock = some q) v bs := by
  obtain ⟨A, c, rfl, h1, h2, h3⟩ := (own_u8s h).sl
  refine ⟨A, c, rfl, h1, h2, fun h0 => ?_⟩
  obtain ⟨b, o, rfl, hb, hl, hx⟩ := h3 h0
  exact ⟨b, o, rfl, ⟨hb, rfl⟩, hl, fun i x hx' => by
    obtain ⟨cs, hr, hc⟩ := hx i x hx'
    exact ⟨cs, hr, hc⟩⟩
theorem BL.sl {w : World} {lo : Nat} {dv : Value} {vs : List Value} {bss : List (List UInt8)} (h : BL w lo dv vs bss) : Sl (kslice kbyte) w (lo ≤ ·) dv bss := by
  have hlen := h.len
  refine Own.sl (e := 25) ⟨vs, h.own, fun i bs hb => ?_⟩
  obtain ⟨hl, he⟩ := List.getElem?_eq_some_iff.1 hb
  have e : vs.drop (i * (kslice kbyte).sz) = vs.drop i := by show vs.drop (i * 1) = _; rw [Nat.mul_one]
  rw [e]
  have hi : i < vs.length := by omega
  have hv : vs[i]? = some vs[i] := List.getElem?_eq_getElem hi
  refine ⟨vs[i], ?_, ?_⟩
  · show (vs.drop i).take 1 = _
    rw [List.drop_eq_getElem_cons hi]
    rfl
  · have hr := h.row i vs[i] bs hv hb
    refine (row_bytes hr).mono fun q hq => ⟨hq.1, fun e => h.ne i vs[i] q hv hq.2 e.symm⟩
/-- A part of a slice. -/
theorem Sl.part {α : Type} {K : Kind α} {w : World} {ok : Nat → Prop} {b o n c i m : Nat} {xs : List α} (h : Sl K w ok (.slice (some ⟨b, o, none⟩) n c) xs) (hm : i + m ≤ xs.length) : Sl K w ok (.slice (some ⟨b, o + i * K.sz, none⟩) m m) ((xs.drop i).take m) := by
  obtain ⟨A, c', e, h1, h2, h3⟩ := h
  cases e
  have hml : ((xs.drop i).take m).length = m := by simp; omega
  refine ⟨_, m, by rw [hml], by omega, by omega, fun h0 => ?_⟩
  obtain ⟨b', o', e, hb, hl, hx⟩ := h3 (by omega)
  cases e
  refine ⟨b, o + i * K.sz, rfl, hb, hl, fun j x hj => ?_⟩
  rw [hml] at h0
  have hjm : j < m := by
    have := (List.getElem?_eq_some_iff.1 hj).1
    omega
  rw [List.getElem?_take_of_lt hjm, List.getElem?_drop] at hj
  obtain ⟨cs, hr, hc⟩ := hx (i + j) x hj
  refine ⟨cs, hr, fun k u hk => ?_⟩
  rw [show o + i * K.sz + j * K.sz + k = o + (i + j) * K.sz + k by rw [Nat.add_mul]; omega]
  exact hc k u hk
theorem app_one_in {F : Fence} {nF : Nat} {P : Program} {ops : Array Oper} {rest : List Oper} {o : Oper} {a : Act} {Q : Exit → Act → World → Prop} {W : World} (B : Nat) (hgd : o.guard = none) (s x : Operand) (t e : TypeId) (z : Value) (size bytes : Nat)
    (ho : o.op = .call { callee := .builtin .append, args := #[s, x], argTypes := #[t, t] })
    (ht : P.underlying t = some (.slice e)) (hinfo : (P.info? e).map (fun i => (i.zero, i.size, i.bytes)) = some (some z, size, bytes)) (hz : z.cells.size = size) (hsz : 0 < size) (hb0 : 0 < bytes)
    (v : Value) (n : Nat) (xs ys : List Value) (hs : a.eval s = v) (hx : a.eval x = .slice (some ⟨W.heap.size, 0, none⟩) 1 1) (hy : ys.length = size) (h1 : ∀ u ∈ ys, u.oneCell' = true)
    (HO : W.ownsRow B e size v n xs) (hbase : B ≤ W.heap.size) (hl : (n + 1) * bytes ≤ 140737488355328)
    (h : ∀ v1 w1, w1.ownsRow B e size v1 (n + 1) (xs ++ ys) → W.grownBy w1 v.ownBlock → (v1.ownBlock = v.ownBlock ∨ v1.ownBlock = some (W.heap.size + 1)) → wpListIn F nF P ops Q rest (a.put o.dst v1) w1) :
    wpListIn F nF P ops Q (o :: rest) a (W.alloc (.cells ys.toArray e)) := by
  obtain ⟨i0, hi, hz0, hz1, hz2⟩ := info_parts hinfo
  have hlen : n + 1 ≤ 140737488355328 := Nat.le_trans (Nat.le_mul_of_pos_right _ hb0) hl
  refine wpListIn_append_own_at (W.alloc (.cells ys.toArray e)) hgd s x t ho B e i0 z size bytes ht hi hz0 hz1 hz2 hz hsz v n xs hs (HO.alloc _) ⟨W.heap.size, 0, none⟩ 1 1 ys hx (by omega)
    (World.news_of_block (cs := ys.toArray) (t := e) (fr := (0, 0)) (heap_alloc_new W _)) h1 (by simp only [maxLen]; omega) hl (by simp; omega) ?_
  intro v1 w1 hown hg _ hat
  exact h v1 w1 hown (World.grownBy.trans (World.grownBy_alloc W _ _) hg) (by simpa using hat)
theorem own_one {w : World} {B s n : Nat} {e : TypeId} {v : Value} {xs : List Value} (h : w.ownsRow B e s v n xs) : v.oneCell' = true := by
  rcases h.2 with ⟨rfl, _⟩ | ⟨g, cap, cur, rfl, _⟩ <;> rfl
theorem wp_noexit {P : Program} {c : Code} {K : Act → World → Prop} {Q : Exit → Act → World → Prop} {a : Act} {w : World} (h : c.wp P (Exit.then K fun _ _ _ => False) a w) : c.wp P (Exit.then K Q) a w :=
  wp_mono h fun e a w h => by cases e <;> first | exact h | exact h.elim
end
end
section
section
open Go
variable {P : Program} {ops : Array Oper} {Q : Exit → Act → World → Prop} {md : Region.Mode} {S : World → Prop}
/-- Whatever order is picked; S holds behind every operation but z. -/
def wpAnyX (P : Program) (md : Region.Mode) (ops : Array Oper) (Q : Exit → Act → World → Prop) (S : World → Prop) (z : Nat) : Nat → Array Bool → Act → World → Prop
  | 0, listed, a, w => Region.ready md ops listed = [] ∧ Q .normal a w
  | fuel + 1, listed, a, w =>
    (Region.ready md ops listed = [] → Q .normal a w) ∧
    ∀ i ∈ Region.ready md ops listed, wpOp P ops Q i (fun a' w' => (i = z ∨ S w') ∧ wpAnyX P md ops Q S z fuel (listed.setIfInBounds i true) a' w') a w
theorem wpAny_of_X {z : Nat} : ∀ (fuel : Nat) (listed : Array Bool) (a : Act) (w : World), wpAnyX P md ops Q S z fuel listed a w → wpAny P md ops Q fuel listed a w
  | 0, _, _, _, h => h
  | fuel + 1, _, _, _, h => ⟨h.1, fun i hi => wpOp_mono (fun a' w' h' => wpAny_of_X fuel _ a' w' h'.2) (h.2 i hi)⟩
theorem wpAnyX_first {z i : Nat} {oi : Oper} {v : Value} (hi : ops[i]? = some oi) (hsel : ∀ (j : Nat) (o : Oper) cs b, ops[j]? = some o → o.op ≠ .select cs b) (hz : Region.waitsFor md ops z i = true)
    (hQ : ∀ c a w, Q (.panic c) (a.put oi.dst v) w → Q (.panic c) a w) :
    ∀ (fuel : Nat) (listed : Array Bool) (a : Act) (w : World),
      (∀ j oj, ops[j]? = some oj → j ≠ i → listed.getD j true = false → (∀ e ∈ oj.after, Region.binds md e = true → e.on ≠ i) → oi.apart ops oj = true) →
      i ∈ Region.ready md ops listed → YieldsIf P ops S oi v a → S w →
      wpAnyX P md ops Q S z fuel (listed.setIfInBounds i true) (a.put oi.dst v) w → wpAnyX P md ops Q S z (fuel + 1) listed a w := by
  intro fuel
  induction fuel with
  | zero =>
    intro listed a w _ hr hy hS H
    refine ⟨fun h => (by rw [h] at hr; cases hr), fun j hj => ?_⟩
    by_cases hji : j = i
    · subst hji; exact hy.wpOp hi hS ⟨.inr hS, H⟩
    · have := ready_mono hj hji
      rw [H.1] at this
      cases this
  | succ fuel ih =>
    intro listed a w hfree hr hy hS H
    refine ⟨fun h => (by rw [h] at hr; cases hr), fun j hj => ?_⟩
    by_cases hji : j = i
    · subst hji; exact hy.wpOp hi hS ⟨.inr hS, H⟩
    · have h1 := H.2 j (ready_mono hj hji)
      obtain ⟨hjun, oj, hoj, hall⟩ := mem_ready.1 hj
      have hnot : ∀ e ∈ oj.after, Region.binds md e = true → e.on ≠ i := fun e he hb heq => by
        have h1 := hall e he hb
        have h0 := (mem_ready.1 hr).1
        rw [heq] at h1
        rcases Nat.lt_or_ge i listed.size with h' | h'
        · simp [h'] at h0 h1; rw [h0] at h1; cases h1
        · simp [Array.getElem?_eq_none h'] at h1
      have hjz : j ≠ z := fun e => by
        subst e
        obtain ⟨oz, hoz, e, he, hb, hon⟩ := Region.waitsFor_spec hz
        have : oz = oj := Option.some.inj (hoz.symm.trans hoj)
        subst this
        exact hnot e he hb hon
      have h2 := wpOp_putIf hoj (hfree j oj hoj hji hjun hnot) (fun cs b => hsel i oi cs b hi) (fun cs b => hsel j oj cs b hoj) hQ hy h1
      have hfree' : ∀ k ok, ops[k]? = some ok → k ≠ i → (listed.setIfInBounds j true).getD k true = false →
          (∀ e ∈ ok.after, Region.binds md e = true → e.on ≠ i) → oi.apart ops ok = true := fun k ok hk hki hun hno => by
        refine hfree k ok hk hki ?_ hno
        by_cases hjk : j = k
        · subst hjk; exact hjun
        · rw [getD_set_ne true hjk] at hun; exact hun
      refine wpOp_mono (fun a' w' h3 => ?_) h2
      have hS' : S w' := h3.2.1.resolve_left hjz
      refine ⟨.inr hS', ih (listed.setIfInBounds j true) a' w' hfree' (ready_mono hr (Ne.symm hji)) h3.1 hS' ?_⟩
      rw [Array.setIfInBounds_comm _ _ hji]
      exact h3.2.2
/-- Take number i first. -/
theorem wpAnyX_take {z i : Nat} {oi : Oper} {v : Value} {fuel : Nat} {listed : Array Bool} {a : Act} {w : World} (hi : ops[i]? = some oi)
    (hs : Region.noSelect ops = true) (hf : Region.free md ops listed i = true) (hr : (Region.ready md ops listed).contains i = true) (hz : Region.waitsFor md ops z i = true)
    (hQ : ∀ c a w, Q (.panic c) (a.put oi.dst v) w → Q (.panic c) a w) (hy : YieldsIf P ops S oi v a) (hS : S w)
    (h : wpAnyX P md ops Q S z fuel (listed.setIfInBounds i true) (a.put oi.dst v) w) : wpAnyX P md ops Q S z (fuel + 1) listed a w :=
  wpAnyX_first hi (Region.noSelect_spec hs) hz hQ fuel listed a w (Region.free_spec hi hf) (by simpa using hr) hy hS h
/-- One alone may come up. -/
theorem wpAnyX_one {z i : Nat} {oi : Oper} {fuel : Nat} {listed : Array Bool} {a : Act} {w : World} (hi : ops[i]? = some oi) (hr : Region.ready md ops listed = [i])
    (h : ∀ K' : Act → World → Prop, (∀ a w, (i = z ∨ S w) ∧ wpAnyX P md ops Q S z fuel (listed.setIfInBounds i true) a w → K' a w) → if Region.wanted oi (yielded ops a.tmps) = true then Oper.wp P oi a w K' Q else K' (a.put oi.dst undef) w) :
    wpAnyX P md ops Q S z (fuel + 1) listed a w :=
  ⟨fun h0 => (by rw [h0] at hr; cases hr), fun j hj => by
    rw [hr] at hj
    obtain rfl := List.mem_singleton.1 hj
    exact wpOp_step hi fun K' hK => h K' hK⟩
theorem wpAnyX_done {z : Nat} {listed : Array Bool} {a : Act} {w : World} (hr : Region.ready md ops listed = []) (h : Q .normal a w) :
    ∀ fuel, wpAnyX P md ops Q S z fuel listed a w
  | 0 => ⟨hr, h⟩
  | _ + 1 => ⟨fun _ => h, by rw [hr]; simp⟩
theorem wp_region_X {id : Nat} {a : Act} {w : World} (z : Nat) (S : World → Prop) (hm : P.follows .mixedOrders = true)
    (h : wpAnyX P .any ops Q S z ops.size (Array.replicate ops.size false) a w.drew) : (Code.region id ops true).wp P Q a w :=
  wp_region_any hm (wpAny_of_X _ _ _ _ h)
end
end
section
open Go.RowKit
theorem Sl.drop {α : Type} {K : Kind α} {w : World} {ok : Nat → Prop} {b o n c i : Nat} {xs : List α} (h : Sl K w ok (.slice (some ⟨b, o, none⟩) n c) xs) (hi : i ≤ xs.length) : Sl K w ok (.slice (some ⟨b, o + i * K.sz, none⟩) (xs.length - i) (c - i)) (xs.drop i) := by
  obtain ⟨A, c', e, h1, h2, h3⟩ := h
  cases e
  have hml : (xs.drop i).length = xs.length - i := by simp
  refine ⟨_, c - i, by rw [hml], by omega, by omega, fun h0 => ?_⟩
  obtain ⟨b', o', e, h4, h5, h6⟩ := h3 (by omega)
  cases e
  refine ⟨b, o + i * K.sz, rfl, h4, h5, fun j x hj => ?_⟩
  rw [List.getElem?_drop] at hj
  obtain ⟨cs, hr, hcs⟩ := h6 (i + j) x hj
  refine ⟨cs, hr, fun k u hk => ?_⟩
  have := hcs k u hk
  rw [Nat.add_mul] at this
  rw [← Nat.add_assoc o] at this
  exact this
/-- A reader in the box R: its bytes, its place, its error. -/
structure Rd (lo : Nat) (W : World) (R : Nat) (bv : Value) (bs : List UInt8) (at_ : Nat) (err : Int) : Prop where
  box : W.heap[R]? = some (.cells #[bv, .int .i64 at_, .int .i64 err] 117 (0, 0))
  own : W.ownsRow lo 5 1 bv bs.length (u8s bs)
  ne : bv.ownBlock ≠ some R
  lo : lo ≤ R
  le : at_ ≤ bs.length
theorem vgo_le : ∀ (f x i : Nat) (bs : List UInt8) (y n : Nat), vgo f x i bs = some (y, n) → i < n ∧ n ≤ i + bs.length ∧ n ≤ i + f
  | 0, _, _, _, _, _, h => by simp [vgo] at h
  | f + 1, x, i, [], _, _, h => by simp [vgo] at h
  | f + 1, x, i, c :: r, y, n, h => by
    rw [vgo] at h
    split at h
    · cases h
      simp only [List.length_cons]
      omega
    · have := vgo_le f _ (i + 1) r y n h
      simp only [List.length_cons]
      omega
theorem vread_le {bs : List UInt8} {x n : Nat} (h : vread bs = some (x, n)) : 0 < n ∧ n ≤ bs.length ∧ n ≤ 9 := by
  unfold vread at h
  split at h
  · cases h
  · have := vgo_le 9 0 0 bs x n h
    omega
theorem vgo_small : ∀ (f x i : Nat) (bs : List UInt8) (y n : Nat), x < 128 ^ i → vgo f x i bs = some (y, n) → y < 128 ^ n
  | 0, _, _, _, _, _, _, h => by simp [vgo] at h
  | f + 1, x, i, [], _, _, _, h => by simp [vgo] at h
  | f + 1, x, i, c :: r, y, n, hx, h => by
    have e : 128 ^ (i + 1) = 128 ^ i * 128 := Nat.pow_succ 128 i
    rw [vgo] at h
    split at h
    · cases h
      omega
    · exact vgo_small f _ (i + 1) r y n (by have := Nat.mod_lt c.toNat (show 0 < 128 by decide); omega) h
theorem vread_small {bs : List UInt8} {x n : Nat} (h : vread bs = some (x, n)) : x < 9223372036854775808 := by
  have h9 := (vread_le h).2.2
  unfold vread at h
  split at h
  · cases h
  · have h1 := vgo_small 9 0 0 bs x n (by simp) h
    have h2 : 128 ^ n ≤ 128 ^ 9 := Nat.pow_le_pow_right (by omega) h9
    have h3 : (128 : Nat) ^ 9 = 9223372036854775808 := by decide
    omega
theorem Rd.turn {lo : Nat} {w : World} {R : Nat} {bv : Value} {bs : List UInt8} {at_ : Nat} {err : Int} (h : Rd lo w R bv bs at_ err) (p : Nat) (c : Int) (hp : p ≤ bs.length) :
    Rd lo ((w.setCell ⟨R, 1, none⟩ (.int .i64 p)).setCell ⟨R, 2, none⟩ (.int .i64 c)).drew R bv bs p c ∧ ((w.setCell ⟨R, 1, none⟩ (.int .i64 p)).setCell ⟨R, 2, none⟩ (.int .i64 c)).drew.heap.size = w.heap.size ∧
      (∀ q, q ≠ R → ((w.setCell ⟨R, 1, none⟩ (.int .i64 p)).setCell ⟨R, 2, none⟩ (.int .i64 c)).drew.heap[q]? = w.heap[q]?) ∧ ((w.setCell ⟨R, 1, none⟩ (.int .i64 p)).setCell ⟨R, 2, none⟩ (.int .i64 c)).drew.os = w.os ∧
      ((w.setCell ⟨R, 1, none⟩ (.int .i64 p)).setCell ⟨R, 2, none⟩ (.int .i64 c)).drew.tape = w.tape ∧ ((w.setCell ⟨R, 1, none⟩ (.int .i64 p)).setCell ⟨R, 2, none⟩ (.int .i64 c)).drew.output = w.output := by
  have hfar : ∀ q, q ≠ R → ((w.setCell ⟨R, 1, none⟩ (.int .i64 p)).setCell ⟨R, 2, none⟩ (.int .i64 c)).drew.heap[q]? = w.heap[q]? := fun q hq => by
    show ((w.setCell ⟨R, 1, none⟩ (.int .i64 p)).setCell ⟨R, 2, none⟩ (.int .i64 c)).heap[q]? = _
    rw [Below.heap_setCell _ _ _ _ hq, Below.heap_setCell _ _ _ _ hq]
  refine ⟨⟨?_, ownsRow_move h.own fun q e => hfar q (fun e2 => h.ne (e2 ▸ e)), h.ne, h.lo, hp⟩, ?_, hfar, rfl, rfl, rfl⟩
  · exact Lib.heap_setCell_same (Lib.heap_setCell_same h.box _) _
  · show ((w.setCell ⟨R, 1, none⟩ (.int .i64 p)).setCell ⟨R, 2, none⟩ (.int .i64 c)).heap.size = _
    simp
theorem three {w : World} {g : Nat} {t : TypeId} {a b c : Value} (h : w.heap[g]? = some (.cells #[a, b, c] t (0, 0))) :
    w.cell? ⟨g, 0, none⟩ = some a ∧ w.cell? ⟨g, 1, none⟩ = some b ∧ w.cell? ⟨g, 2, none⟩ = some c :=
  ⟨(store_at h 0 (show 0 < 3 by decide)).1, (store_at h 1 (show 1 < 3 by decide)).1, (store_at h 2 (show 2 < 3 by decide)).1⟩
set_option maxHeartbeats 2000000 in
set_option maxRecDepth 100000 in
theorem newReader_any {w : World} {ok : Nat → Prop} {v : Value} {bs : List UInt8} (hs : Sl kbyte w ok v bs) (hl : bs.length ≤ 1099511627776) :
    Calls Tryz.prog 37 #[v] w fun e w' => ∃ R bv, e = .returned (.pointer (some ⟨R, 0, none⟩)) ∧ Rd w.heap.size w' R bv bs 0 0 ∧ Below w.heap.size w w' := by
  obtain ⟨A, c, rfl, hc, hm⟩ := hs.slice
  have hcall := grown_any 0 (by omega) hs hl
  clear hs
  go_enter Tryz.func37, Tryz.ntmps37
  go_wp2_with fail
  refine hcall.mono ?_
  clear hcall
  rintro e w2 ⟨bv, rfl, ho, hb⟩
  have HP : Aside (∃ R v, Ending.returned (.pointer (some ⟨w2.heap.size, 0, none⟩)) = .returned (.pointer (some ⟨R, 0, none⟩)) ∧ Rd w.heap.size (w2.alloc (.cells #[bv, .int .i64 0, .int .i64 0] 117)) R v bs 0 0 ∧ Below w.heap.size w (w2.alloc (.cells #[bv, .int .i64 0, .int .i64 0] 117))) :=
    ⟨w2.heap.size, bv, rfl, ⟨heap_alloc_new _ _, ho.alloc _, fun e => by have := (ho.lt _ e).2; omega, hb.size, Nat.zero_le _⟩, hb.alloc hb.size _⟩
  obtain ⟨A2, m2, c2, rfl⟩ := own_slice ho
  clear ho hb
  go_wp2_with fail
  go_ret
  exact HP.out
set_option maxHeartbeats 2000000 in
set_option maxRecDepth 100000 in
theorem left_any {w : World} {lo R at_ : Nat} {bv : Value} {bs : List UInt8} {err : Int} (h : Rd lo w R bv bs at_ err) :
    Calls Tryz.prog 38 #[.pointer (some ⟨R, 0, none⟩)] w fun e w' => e = .returned (.int .i64 (if err = 0 then (bs.length : Int) - (at_ : Int) else 0)) ∧ ∃ q, w' = w.drewN q := by
  obtain ⟨k0, k1, k2⟩ := three h.box
  have hle := h.le
  have hcs := (own_u8s h.own).sl
  obtain ⟨A, c, rfl, _⟩ := hcs.slice
  clear h hcs
  by_cases he : err = 0
  · subst he
    go_enter Tryz.func38, Tryz.ntmps38
    go_wp2_with fail
    go_region
    all_goals go_wp2
    all_goals go_ret
    all_goals exact ⟨by simp, 1, rfl⟩
  · have hb : (err == 0) = false := beq_false_of_ne he
    have hb2 : (err != 0) = true := by simp [he]
    rw [if_neg he]
    go_enter Tryz.func38, Tryz.ntmps38
    go_wp2_with fail
    go_ret
    exact ⟨rfl, 0, rfl⟩
set_option maxHeartbeats 2000000 in
set_option maxRecDepth 100000 in
theorem err_any {w : World} {lo R at_ : Nat} {bv : Value} {bs : List UInt8} {err : Int} (h : Rd lo w R bv bs at_ err) :
    Calls Tryz.prog 219 #[.pointer (some ⟨R, 0, none⟩)] w fun e w' => e = .returned (.tuple #[.int .i64 err, .int .i64 at_]) ∧ ∃ q, w' = w.drewN q := by
  obtain ⟨k0, k1, k2⟩ := three h.box
  clear h
  go_enter Tryz.func219, Tryz.ntmps219
  go_wp2_with fail
  go_region
  all_goals go_wp2
  all_goals exact bodyPost_ret (by simp [results, Tryz.results219, go_sem]) rfl ⟨rfl, 1, rfl⟩
set_option maxHeartbeats 2000000 in
set_option maxRecDepth 100000 in
theorem int_any {w : World} {lo R at_ : Nat} {bv : Value} {bs : List UInt8} (h : Rd lo w R bv bs at_ 0) (hlt : at_ < bs.length) :
    Calls Tryz.prog 39 #[.pointer (some ⟨R, 0, none⟩)] w fun e w' =>
      (∀ x n, vread (bs.drop at_) = some (x, n) → e = .returned (.int .i64 (x : Nat)) ∧ Rd lo w' R bv bs (at_ + n) 0) ∧
      (vread (bs.drop at_) = none → e = .returned (.int .i64 0) ∧ ∃ c : Int, c ≠ 0 ∧ Rd lo w' R bv bs at_ c) ∧ w'.heap.size = w.heap.size ∧ (∀ q, q ≠ R → w'.heap[q]? = w.heap[q]?) ∧ w'.os = w.os ∧ w'.tape = w.tape ∧ w'.output = w.output := by
  obtain ⟨k0, k1, k2⟩ := three h.box
  have hle := h.le
  have hcs := (own_u8s h.own).sl
  obtain ⟨A, c, rfl, _⟩ := hcs.slice
  have HR := Aside.mk h
  clear h
  rcases A with _ | ⟨b, o, u⟩
  · rcases HR.out.own.2 with ⟨_, e⟩ | ⟨g, cap, cur, e, _⟩
    · omega
    · cases e
  · have hu : u = none := by
      rcases HR.out.own.2 with ⟨e, _⟩ | ⟨g, cap, cur, e, _⟩
      · cases e
      · cases e; rfl
    subst hu
    have hf := form_any (Sl.drop (w := w.drew) (ok := fun x => lo ≤ x) (b := b) (o := o) (n := bs.length) (c := c) (hcs.move fun _ _ => rfl) hle)
    simp only [kbyte, flat, Nat.mul_one] at hf
    have HF := Aside.mk hf
    clear hcs hf
    have hatc : ¬ (c = at_) := by omega
    have hbl := store_at HR.out.box 0 (show 0 < 3 by decide)
    have hbf1 := (store_at HR.out.box 1 (show 1 < 3 by decide)).2.1
    have hbf2 := (store_at HR.out.box 2 (show 2 < 3 by decide)).2.1
    have hS0 : w.drew.cell? ⟨R, 0, none⟩ = some (.slice (some ⟨b, o, none⟩) bs.length c) ∧ w.drew.cell? ⟨R, 1, none⟩ = some (.int .i64 at_) := ⟨k0, k1⟩
    have hS0 : w.drew.cell? ⟨R, 0, none⟩ = some (.slice (some ⟨b, o, none⟩) bs.length c) ∧ w.drew.cell? ⟨R, 1, none⟩ = some (.int .i64 at_) := ⟨k0, k1⟩
    cases hv : vread (bs.drop at_) with
    | none =>
      go_enter Tryz.func39, Tryz.ntmps39
      go_upto_region 3 with (fail)
      refine wp_region_X 16 (fun w' => w'.cell? ⟨R, 0, none⟩ = some (.slice (some ⟨b, o, none⟩) bs.length c) ∧ w'.cell? ⟨R, 1, none⟩ = some (.int .i64 at_)) (by kernel_rfl) ?_
      refine wpAnyX_take (i := 0) (oi := ⟨some 12, .move (.tmp 0), _, _, _, _⟩) (v := .pointer (some ⟨R, 0, none⟩)) rfl (by kernel_rfl) (by kernel_rfl) (by kernel_rfl) (by kernel_rfl) (fun _ _ _ h => h) (Or.inl ⟨by rfl, ?_⟩) hS0 ?_
      · intro w' hSw
        first | (go_simp; done) | (go_simp; rfl)
      simp only [Act.put, List.setIfInBounds_toArray, List.set_cons_zero, List.set_cons_succ]
      refine wpAnyX_take (i := 1) (oi := ⟨some 13, .nilCheck (.tmp 12), _, _, _, _⟩) (v := .pointer (some ⟨R, 0, none⟩)) rfl (by kernel_rfl) (by kernel_rfl) (by kernel_rfl) (by kernel_rfl) (fun _ _ _ h => h) (Or.inl ⟨by rfl, ?_⟩) hS0 ?_
      · intro w' hSw
        first | (go_simp; done) | (go_simp; rfl)
      simp only [Act.put, List.setIfInBounds_toArray, List.set_cons_zero, List.set_cons_succ]
      refine wpAnyX_take (i := 2) (oi := ⟨some 14, .fieldAddr 117 (.tmp 13) 0, _, _, _, _⟩) (v := .pointer (some ⟨R, 0, none⟩)) rfl (by kernel_rfl) (by kernel_rfl) (by kernel_rfl) (by kernel_rfl) (fun _ _ _ h => h) (Or.inl ⟨by rfl, ?_⟩) hS0 ?_
      · intro w' hSw
        first | (go_simp; done) | (go_simp; rfl)
      simp only [Act.put, List.setIfInBounds_toArray, List.set_cons_zero, List.set_cons_succ]
      refine wpAnyX_take (i := 3) (oi := ⟨some 15, .load 25 (.tmp 14), _, _, _, _⟩) (v := .slice (some ⟨b, o, none⟩) bs.length c) rfl (by kernel_rfl) (by kernel_rfl) (by kernel_rfl) (by kernel_rfl) (fun _ _ _ h => h) (Or.inl ⟨by rfl, ?_⟩) hS0 ?_
      · intro w' hSw
        first | (go_simp; done) | (go_simp; rfl)
      simp only [Act.put, List.setIfInBounds_toArray, List.set_cons_zero, List.set_cons_succ]
      refine wpAnyX_take (i := 4) (oi := ⟨some 16, .move (.tmp 0), _, _, _, _⟩) (v := .pointer (some ⟨R, 0, none⟩)) rfl (by kernel_rfl) (by kernel_rfl) (by kernel_rfl) (by kernel_rfl) (fun _ _ _ h => h) (Or.inl ⟨by rfl, ?_⟩) hS0 ?_
      · intro w' hSw
        first | (go_simp; done) | (go_simp; rfl)
      simp only [Act.put, List.setIfInBounds_toArray, List.set_cons_zero, List.set_cons_succ]
      refine wpAnyX_take (i := 5) (oi := ⟨some 17, .nilCheck (.tmp 16), _, _, _, _⟩) (v := .pointer (some ⟨R, 0, none⟩)) rfl (by kernel_rfl) (by kernel_rfl) (by kernel_rfl) (by kernel_rfl) (fun _ _ _ h => h) (Or.inl ⟨by rfl, ?_⟩) hS0 ?_
      · intro w' hSw
        first | (go_simp; done) | (go_simp; rfl)
      simp only [Act.put, List.setIfInBounds_toArray, List.set_cons_zero, List.set_cons_succ]
      refine wpAnyX_take (i := 6) (oi := ⟨some 18, .fieldAddr 117 (.tmp 17) 1, _, _, _, _⟩) (v := .pointer (some ⟨R, 1, none⟩)) rfl (by kernel_rfl) (by kernel_rfl) (by kernel_rfl) (by kernel_rfl) (fun _ _ _ h => h) (Or.inl ⟨by rfl, ?_⟩) hS0 ?_
      · intro w' hSw
        first | (go_simp; done) | (go_simp; rfl)
      simp only [Act.put, List.setIfInBounds_toArray, List.set_cons_zero, List.set_cons_succ]
      refine wpAnyX_take (i := 7) (oi := ⟨some 19, .load 3 (.tmp 18), _, _, _, _⟩) (v := .int .i64 at_) rfl (by kernel_rfl) (by kernel_rfl) (by kernel_rfl) (by kernel_rfl) (fun _ _ _ h => h) (Or.inl ⟨by rfl, ?_⟩) hS0 ?_
      · intro w' hSw
        first | (go_simp; done) | (go_simp; rfl)
      simp only [Act.put, List.setIfInBounds_toArray, List.set_cons_zero, List.set_cons_succ]
      refine wpAnyX_take (i := 8) (oi := ⟨some 20, .slice 25 (.tmp 15) (some (.tmp 19)) none none, _, _, _, _⟩) (v := .slice (some ⟨b, o + at_, none⟩) (bs.length - at_) (c - at_)) rfl (by kernel_rfl) (by kernel_rfl) (by kernel_rfl) (by kernel_rfl) (fun _ _ _ h => h) (Or.inl ⟨by rfl, ?_⟩) hS0 ?_
      · intro w' hSw
        first | (go_simp; done) | (go_simp; rfl)
      simp only [Act.put, List.setIfInBounds_toArray, List.set_cons_zero, List.set_cons_succ]
      refine wpAnyX_one (i := 9) (oi := ⟨some 21, .call { callee := .value (.func 77), args := #[.tmp 20], argTypes := #[25] }, _, _, _, _⟩) rfl (by kernel_rfl) (fun K hK => ?_)
      go_simp
      refine HF.out.mono ?_
      rintro e w5 ⟨rfl, _, h1⟩
      obtain ⟨cc, hcc, rfl⟩ := h1 hv
      refine hK _ _ ⟨.inr hS0, ?_⟩
      clear hK K
      try simp only [Act.put, List.setIfInBounds_toArray, List.set_cons_zero, List.set_cons_succ]
      refine wpAnyX_one (i := 10) (oi := ⟨some 11, .move (.tmp 21), _, _, _, _⟩) rfl (by kernel_rfl) (fun K hK => ?_)
      go_simp
      refine hK _ _ ⟨.inr hS0, ?_⟩
      clear hK K
      try simp only [Act.put, List.setIfInBounds_toArray, List.set_cons_zero, List.set_cons_succ]
      refine wpAnyX_take (i := 11) (oi := ⟨some 22, .extract (.tmp 11) 0, _, _, _, _⟩) (v := .int .i64 0) rfl (by kernel_rfl) (by kernel_rfl) (by kernel_rfl) (by kernel_rfl) (fun _ _ _ h => h) (Or.inl ⟨by rfl, ?_⟩) hS0 ?_
      · intro w' hSw
        first | (go_simp; done) | (go_simp; rfl)
      simp only [Act.put, List.setIfInBounds_toArray, List.set_cons_zero, List.set_cons_succ]
      refine wpAnyX_take (i := 12) (oi := ⟨some 23, .extract (.tmp 11) 1, _, _, _, _⟩) (v := .int .i64 0) rfl (by kernel_rfl) (by kernel_rfl) (by kernel_rfl) (by kernel_rfl) (fun _ _ _ h => h) (Or.inl ⟨by rfl, ?_⟩) hS0 ?_
      · intro w' hSw
        first | (go_simp; done) | (go_simp; rfl)
      simp only [Act.put, List.setIfInBounds_toArray, List.set_cons_zero, List.set_cons_succ]
      refine wpAnyX_take (i := 13) (oi := ⟨some 24, .extract (.tmp 11) 2, _, _, _, _⟩) (v := .int .i64 cc) rfl (by kernel_rfl) (by kernel_rfl) (by kernel_rfl) (by kernel_rfl) (fun _ _ _ h => h) (Or.inl ⟨by rfl, ?_⟩) hS0 ?_
      · intro w' hSw
        first | (go_simp; done) | (go_simp; rfl)
      simp only [Act.put, List.setIfInBounds_toArray, List.set_cons_zero, List.set_cons_succ]
      refine wpAnyX_one (i := 14) (oi := ⟨some 3, .assign (.tmp 22), _, _, _, _⟩) rfl (by kernel_rfl) (fun K hK => ?_)
      go_simp
      refine hK _ _ ⟨.inr hS0, ?_⟩
      clear hK K
      try simp only [Act.put, List.setIfInBounds_toArray, List.set_cons_zero, List.set_cons_succ]
      refine wpAnyX_one (i := 15) (oi := ⟨some 4, .assign (.tmp 23), _, _, _, _⟩) rfl (by kernel_rfl) (fun K hK => ?_)
      go_simp
      refine hK _ _ ⟨.inr hS0, ?_⟩
      clear hK K
      try simp only [Act.put, List.setIfInBounds_toArray, List.set_cons_zero, List.set_cons_succ]
      refine wpAnyX_one (i := 16) (oi := ⟨some 5, .assign (.tmp 24), _, _, _, _⟩) rfl (by kernel_rfl) (fun K hK => ?_)
      go_simp
      refine hK _ _ ⟨.inl rfl, ?_⟩
      clear hK K
      try simp only [Act.put, List.setIfInBounds_toArray, List.set_cons_zero, List.set_cons_succ]
      refine wpAnyX_done (by kernel_rfl) ?_ _
      go_wp2_with fail
      have HT := Aside.mk (HR.out.turn at_ cc hle)
      go_ret
      exact ⟨(fun x n e => by cases e), (fun _ => ⟨rfl, cc, hcc, HT.out.1⟩), HT.out.2⟩
    | some xn =>
      obtain ⟨x, n⟩ := xn
      have hn := vread_le hv
      have hn2 := vread_small hv
      rw [List.length_drop] at hn
      go_enter Tryz.func39, Tryz.ntmps39
      go_upto_region 3 with (fail)
      refine wp_region_X 16 (fun w' => w'.cell? ⟨R, 0, none⟩ = some (.slice (some ⟨b, o, none⟩) bs.length c) ∧ w'.cell? ⟨R, 1, none⟩ = some (.int .i64 at_)) (by kernel_rfl) ?_
      refine wpAnyX_take (i := 0) (oi := ⟨some 12, .move (.tmp 0), _, _, _, _⟩) (v := .pointer (some ⟨R, 0, none⟩)) rfl (by kernel_rfl) (by kernel_rfl) (by kernel_rfl) (by kernel_rfl) (fun _ _ _ h => h) (Or.inl ⟨by rfl, ?_⟩) hS0 ?_
      · intro w' hSw
        first | (go_simp; done) | (go_simp; rfl)
      simp only [Act.put, List.setIfInBounds_toArray, List.set_cons_zero, List.set_cons_succ]
      refine wpAnyX_take (i := 1) (oi := ⟨some 13, .nilCheck (.tmp 12), _, _, _, _⟩) (v := .pointer (some ⟨R, 0, none⟩)) rfl (by kernel_rfl) (by kernel_rfl) (by kernel_rfl) (by kernel_rfl) (fun _ _ _ h => h) (Or.inl ⟨by rfl, ?_⟩) hS0 ?_
      · intro w' hSw
        first | (go_simp; done) | (go_simp; rfl)
      simp only [Act.put, List.setIfInBounds_toArray, List.set_cons_zero, List.set_cons_succ]
      refine wpAnyX_take (i := 2) (oi := ⟨some 14, .fieldAddr 117 (.tmp 13) 0, _, _, _, _⟩) (v := .pointer (some ⟨R, 0, none⟩)) rfl (by kernel_rfl) (by kernel_rfl) (by kernel_rfl) (by kernel_rfl) (fun _ _ _ h => h) (Or.inl ⟨by rfl, ?_⟩) hS0 ?_
      · intro w' hSw
        first | (go_simp; done) | (go_simp; rfl)
      simp only [Act.put, List.setIfInBounds_toArray, List.set_cons_zero, List.set_cons_succ]
      refine wpAnyX_take (i := 3) (oi := ⟨some 15, .load 25 (.tmp 14), _, _, _, _⟩) (v := .slice (some ⟨b, o, none⟩) bs.length c) rfl (by kernel_rfl) (by kernel_rfl) (by kernel_rfl) (by kernel_rfl) (fun _ _ _ h => h) (Or.inl ⟨by rfl, ?_⟩) hS0 ?_
      · intro w' hSw
        first | (go_simp; done) | (go_simp; rfl)
      simp only [Act.put, List.setIfInBounds_toArray, List.set_cons_zero, List.set_cons_succ]
      refine wpAnyX_take (i := 4) (oi := ⟨some 16, .move (.tmp 0), _, _, _, _⟩) (v := .pointer (some ⟨R, 0, none⟩)) rfl (by kernel_rfl) (by kernel_rfl) (by kernel_rfl) (by kernel_rfl) (fun _ _ _ h => h) (Or.inl ⟨by rfl, ?_⟩) hS0 ?_
      · intro w' hSw
        first | (go_simp; done) | (go_simp; rfl)
      simp only [Act.put, List.setIfInBounds_toArray, List.set_cons_zero, List.set_cons_succ]
      refine wpAnyX_take (i := 5) (oi := ⟨some 17, .nilCheck (.tmp 16), _, _, _, _⟩) (v := .pointer (some ⟨R, 0, none⟩)) rfl (by kernel_rfl) (by kernel_rfl) (by kernel_rfl) (by kernel_rfl) (fun _ _ _ h => h) (Or.inl ⟨by rfl, ?_⟩) hS0 ?_
      · intro w' hSw
        first | (go_simp; done) | (go_simp; rfl)
      simp only [Act.put, List.setIfInBounds_toArray, List.set_cons_zero, List.set_cons_succ]
      refine wpAnyX_take (i := 6) (oi := ⟨some 18, .fieldAddr 117 (.tmp 17) 1, _, _, _, _⟩) (v := .pointer (some ⟨R, 1, none⟩)) rfl (by kernel_rfl) (by kernel_rfl) (by kernel_rfl) (by kernel_rfl) (fun _ _ _ h => h) (Or.inl ⟨by rfl, ?_⟩) hS0 ?_
      · intro w' hSw
        first | (go_simp; done) | (go_simp; rfl)
      simp only [Act.put, List.setIfInBounds_toArray, List.set_cons_zero, List.set_cons_succ]
      refine wpAnyX_take (i := 7) (oi := ⟨some 19, .load 3 (.tmp 18), _, _, _, _⟩) (v := .int .i64 at_) rfl (by kernel_rfl) (by kernel_rfl) (by kernel_rfl) (by kernel_rfl) (fun _ _ _ h => h) (Or.inl ⟨by rfl, ?_⟩) hS0 ?_
      · intro w' hSw
        first | (go_simp; done) | (go_simp; rfl)
      simp only [Act.put, List.setIfInBounds_toArray, List.set_cons_zero, List.set_cons_succ]
      refine wpAnyX_take (i := 8) (oi := ⟨some 20, .slice 25 (.tmp 15) (some (.tmp 19)) none none, _, _, _, _⟩) (v := .slice (some ⟨b, o + at_, none⟩) (bs.length - at_) (c - at_)) rfl (by kernel_rfl) (by kernel_rfl) (by kernel_rfl) (by kernel_rfl) (fun _ _ _ h => h) (Or.inl ⟨by rfl, ?_⟩) hS0 ?_
      · intro w' hSw
        first | (go_simp; done) | (go_simp; rfl)
      simp only [Act.put, List.setIfInBounds_toArray, List.set_cons_zero, List.set_cons_succ]
      refine wpAnyX_one (i := 9) (oi := ⟨some 21, .call { callee := .value (.func 77), args := #[.tmp 20], argTypes := #[25] }, _, _, _, _⟩) rfl (by kernel_rfl) (fun K hK => ?_)
      go_simp
      refine HF.out.mono ?_
      rintro e w5 ⟨rfl, h1, _⟩
      obtain rfl := h1 _ _ hv
      refine hK _ _ ⟨.inr hS0, ?_⟩
      clear hK K
      try simp only [Act.put, List.setIfInBounds_toArray, List.set_cons_zero, List.set_cons_succ]
      refine wpAnyX_one (i := 10) (oi := ⟨some 11, .move (.tmp 21), _, _, _, _⟩) rfl (by kernel_rfl) (fun K hK => ?_)
      go_simp
      refine hK _ _ ⟨.inr hS0, ?_⟩
      clear hK K
      try simp only [Act.put, List.setIfInBounds_toArray, List.set_cons_zero, List.set_cons_succ]
      refine wpAnyX_take (i := 11) (oi := ⟨some 22, .extract (.tmp 11) 0, _, _, _, _⟩) (v := .int .i64 (x : Nat)) rfl (by kernel_rfl) (by kernel_rfl) (by kernel_rfl) (by kernel_rfl) (fun _ _ _ h => h) (Or.inl ⟨by rfl, ?_⟩) hS0 ?_
      · intro w' hSw
        first | (go_simp; done) | (go_simp; rfl)
      simp only [Act.put, List.setIfInBounds_toArray, List.set_cons_zero, List.set_cons_succ]
      refine wpAnyX_take (i := 12) (oi := ⟨some 23, .extract (.tmp 11) 1, _, _, _, _⟩) (v := .int .i64 (n : Nat)) rfl (by kernel_rfl) (by kernel_rfl) (by kernel_rfl) (by kernel_rfl) (fun _ _ _ h => h) (Or.inl ⟨by rfl, ?_⟩) hS0 ?_
      · intro w' hSw
        first | (go_simp; done) | (go_simp; rfl)
      simp only [Act.put, List.setIfInBounds_toArray, List.set_cons_zero, List.set_cons_succ]
      refine wpAnyX_take (i := 13) (oi := ⟨some 24, .extract (.tmp 11) 2, _, _, _, _⟩) (v := .int .i64 0) rfl (by kernel_rfl) (by kernel_rfl) (by kernel_rfl) (by kernel_rfl) (fun _ _ _ h => h) (Or.inl ⟨by rfl, ?_⟩) hS0 ?_
      · intro w' hSw
        first | (go_simp; done) | (go_simp; rfl)
      simp only [Act.put, List.setIfInBounds_toArray, List.set_cons_zero, List.set_cons_succ]
      refine wpAnyX_one (i := 14) (oi := ⟨some 3, .assign (.tmp 22), _, _, _, _⟩) rfl (by kernel_rfl) (fun K hK => ?_)
      go_simp
      refine hK _ _ ⟨.inr hS0, ?_⟩
      clear hK K
      try simp only [Act.put, List.setIfInBounds_toArray, List.set_cons_zero, List.set_cons_succ]
      refine wpAnyX_one (i := 15) (oi := ⟨some 4, .assign (.tmp 23), _, _, _, _⟩) rfl (by kernel_rfl) (fun K hK => ?_)
      go_simp
      refine hK _ _ ⟨.inr hS0, ?_⟩
      clear hK K
      try simp only [Act.put, List.setIfInBounds_toArray, List.set_cons_zero, List.set_cons_succ]
      refine wpAnyX_one (i := 16) (oi := ⟨some 5, .assign (.tmp 24), _, _, _, _⟩) rfl (by kernel_rfl) (fun K hK => ?_)
      go_simp
      refine hK _ _ ⟨.inl rfl, ?_⟩
      clear hK K
      try simp only [Act.put, List.setIfInBounds_toArray, List.set_cons_zero, List.set_cons_succ]
      refine wpAnyX_done (by kernel_rfl) ?_ _
      go_wp2_with fail
      have ht := HR.out.turn (at_ + n) 0 (by omega)
      rw [Int.natCast_add] at ht
      have HT := Aside.mk ht
      clear ht
      go_ret
      exact ⟨(fun x' n' e => by cases e; exact ⟨rfl, HT.out.1⟩), (fun e => by cases e), HT.out.2⟩
end
end Go.Proofs.YtjncnppbaldmiaaGreatDoor
