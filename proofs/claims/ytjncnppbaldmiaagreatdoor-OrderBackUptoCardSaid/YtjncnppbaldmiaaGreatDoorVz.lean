/- varint.grown walked: a copy of bytes with room behind it. No condition. -/
import Derived.Test.YtjncnppbaldmiaaGreatDoorB
import Derived.WalkSmall
import Derived.Laws.CopyOwn
namespace Go.Proofs.YtjncnppbaldmiaaGreatDoor
section
/-- The groups of seven bits ahead of the last one, each marked. -/
def vhi (x : Nat) : List UInt8 := if _h : x = 0 then [] else vhi (x / 128) ++ [UInt8.ofNat (128 + x % 128)]
termination_by x
decreasing_by omega
/-- A number's form. -/
def vform (x : Nat) : List UInt8 := vhi (x / 128) ++ [UInt8.ofNat (x % 128)]
theorem vhi_zero : vhi 0 = [] := by rw [vhi]; rfl
theorem vhi_pos {x : Nat} (h : 0 < x) : vhi x = vhi (x / 128) ++ [UInt8.ofNat (128 + x % 128)] := by
  rw [vhi, dif_neg (by omega)]
/-- The number and the length of the form that bytes begin with; none: there is none. fuel: how many bytes a form may have. -/
def vgo : Nat → Nat → Nat → List UInt8 → Option (Nat × Nat)
  | 0, _, _, _ => none
  | _ + 1, _, _, [] => none
  | f + 1, x, i, c :: r => if c.toNat < 128 then some (x * 128 + c.toNat, i + 1) else vgo f (x * 128 + c.toNat % 128) (i + 1) r
def vread (bs : List UInt8) : Option (Nat × Nat) := if bs.head? = some 128 then none else vgo 9 0 0 bs
theorem vgo_hi : ∀ (n y : Nat) (f x i : Nat) (r : List UInt8), y < 128 ^ n → (vhi y).length ≤ f → vgo f x i (vhi y ++ r) = vgo (f - (vhi y).length) (x * 128 ^ (vhi y).length + y) (i + (vhi y).length) r := by
  intro n
  induction n with
  | zero =>
    intro y f x i r hy hf
    have : y = 0 := by simpa using hy
    subst this
    simp [vhi_zero]
  | succ n ih =>
    intro y f x i r hy hf
    rcases Nat.eq_zero_or_pos y with h0 | h0
    · subst h0; simp [vhi_zero]
    · rw [vhi_pos h0, List.append_assoc] at *
      rw [List.length_append] at hf ⊢
      simp only [List.length_singleton] at hf ⊢
      have hyd : y / 128 < 128 ^ n := by rw [Nat.div_lt_iff_lt_mul (by omega)]; rw [Nat.pow_succ] at hy; omega
      rw [ih (y / 128) f x i _ hyd (by omega)]
      obtain ⟨g, hg⟩ : ∃ g, f - (vhi (y / 128)).length = g + 1 := ⟨f - (vhi (y / 128)).length - 1, by omega⟩
      rw [hg]
      simp only [List.singleton_append, vgo]
      have hc : (UInt8.ofNat (128 + y % 128)).toNat = 128 + y % 128 := by rw [UInt8.toNat_ofNat']; omega
      rw [hc, if_neg (by omega)]
      rw [show f - ((vhi (y / 128)).length + 1) = g by omega, show i + (vhi (y / 128)).length + 1 = i + ((vhi (y / 128)).length + 1) by omega]
      congr 1
      rw [Nat.pow_succ, Nat.add_mul, Nat.mul_assoc]
      omega
theorem vhi_length : ∀ (n y : Nat), y < 128 ^ n → (vhi y).length ≤ n := by
  intro n
  induction n with
  | zero => intro y hy; have : y = 0 := by simpa using hy
            subst this; simp [vhi_zero]
  | succ n ih =>
    intro y hy
    rcases Nat.eq_zero_or_pos y with h0 | h0
    · subst h0; simp [vhi_zero]
    · rw [vhi_pos h0, List.length_append]
      have hyd : y / 128 < 128 ^ n := by rw [Nat.div_lt_iff_lt_mul (by omega)]; rw [Nat.pow_succ] at hy; omega
      have := ih _ hyd
      simp only [List.length_singleton]
      omega
theorem vhi_head : ∀ (n y : Nat), y < 128 ^ n → 0 < y → ∃ c r, vhi y = c :: r ∧ c ≠ 128 ∧ 128 ≤ c.toNat := by
  intro n
  induction n with
  | zero => intro y hy h0; have : y = 0 := by simpa using hy
            omega
  | succ n ih =>
    intro y hy h0
    rw [vhi_pos h0]
    rcases Nat.eq_zero_or_pos (y / 128) with h1 | h1
    · rw [h1, vhi_zero]
      have hc : (UInt8.ofNat (128 + y % 128)).toNat = 128 + y % 128 := by rw [UInt8.toNat_ofNat']; omega
      refine ⟨_, [], rfl, fun e => ?_, by omega⟩
      have := congrArg UInt8.toNat e
      rw [hc] at this
      have h2 : (128 : UInt8).toNat = 128 := rfl
      omega
    · have hyd : y / 128 < 128 ^ n := by rw [Nat.div_lt_iff_lt_mul (by omega)]; rw [Nat.pow_succ] at hy; omega
      obtain ⟨c, r, e, hc⟩ := ih _ hyd h1
      exact ⟨c, r ++ [UInt8.ofNat (128 + y % 128)], by rw [e]; rfl, hc⟩
/-- There and back. -/
theorem vread_vform {x : Nat} (hx : x < 128 ^ 9) (r : List UInt8) : vread (vform x ++ r) = some (x, (vform x).length) := by
  have hd : x / 128 < 128 ^ 8 := by rw [Nat.div_lt_iff_lt_mul (by omega)]; omega
  have hl := vhi_length 8 _ hd
  have hc : (UInt8.ofNat (x % 128)).toNat = x % 128 := by rw [UInt8.toNat_ofNat']; omega
  have hno : (vform x ++ r).head? ≠ some 128 := by
    unfold vform
    rcases Nat.eq_zero_or_pos (x / 128) with h0 | h0
    · rw [h0, vhi_zero]
      simp only [List.nil_append, List.singleton_append, List.head?_cons, ne_eq, Option.some.injEq]
      intro e
      have := congrArg UInt8.toNat e
      rw [hc] at this
      have h2 : (128 : UInt8).toNat = 128 := rfl
      omega
    · obtain ⟨c, t, e, h1, _⟩ := vhi_head 8 _ hd h0
      rw [e]
      simpa using h1
  unfold vread
  rw [if_neg hno]
  unfold vform
  rw [List.append_assoc, vgo_hi 8 (x / 128) 9 0 0 _ hd (by omega)]
  obtain ⟨g, hg⟩ : ∃ g, 9 - (vhi (x / 128)).length = g + 1 := ⟨9 - (vhi (x / 128)).length - 1, by omega⟩
  rw [hg]
  simp only [List.singleton_append, vgo, hc]
  rw [if_pos (by omega), List.length_append]
  simp only [List.length_singleton]
  congr 2
  · omega
  · omega
theorem vform_pos (x : Nat) : 0 < (vform x).length := by simp [vform]
/-- All the numbers of a row. -/
def vrow (l : List Nat) : List UInt8 := l.flatMap vform
end
section
open Go.RowKit
theorem vform_len_small {x : Nat} (h : x < 128) : (vform x).length = 1 := by
  unfold vform
  rw [show x / 128 = 0 by omega, vhi_zero]
  rfl
theorem vform_len_step {x : Nat} (h : 128 ≤ x) : (vform x).length = (vform (x / 128)).length + 1 := by
  unfold vform
  rw [vhi_pos (show 0 < x / 128 by omega)]
  simp
set_option maxHeartbeats 400000 in
set_option maxRecDepth 100000 in
theorem vLen_any (x : Nat) (hx : x < 9223372036854775808) (w : World) : Calls Tryz.prog 122 #[.int .i64 x] w fun e w' => e = .returned (.int .i64 ((vform x).length : Nat)) ∧ w' = w := by
  have HB : Aside ((vform x).length ≤ 10) := ⟨by
    have h := vhi_length 9 (x / 128) (by rw [Nat.div_lt_iff_lt_mul (by omega)]; omega)
    simp only [vform, List.length_append, List.length_singleton]
    omega⟩
  have H0 : Aside ((vform x).length + 1 = (vform x).length + 1) := ⟨rfl⟩
  have HX := Aside.mk hx
  clear hx
  go_enter Tryz.func122, Tryz.ntmps122
  go_wp2
  go_loopg [0, 3] (vform x).length (fun kq v0 v3 wr => ∃ (y n : Nat), Aside (y < 9223372036854775808) ∧ Aside (kq = (vform y).length) ∧ v0 = .int .i64 y ∧ v3 = .int .i64 n ∧ Aside (n + (vform y).length = (vform x).length + 1) ∧ wr = w)
  case atStart => exact ⟨x, 1, HX, ⟨rfl⟩, rfl, rfl, ⟨by omega⟩, rfl⟩
  case round =>
    obtain ⟨y, n, HY, HK, rfl, rfl, HN, rfl⟩ := hrel
    have hn : n ≤ 11 := by have := HN.out; have := HB.out; omega
    have hyb : y < 9223372036854775808 := HY.out
    by_cases hy : 128 ≤ y
    · have HS := Aside.mk (vform_len_step hy)
      have hd : decide ((128 : Int) ≤ (y : Int)) = true := decide_eq_true (by omega)
      have hy0 : (0 : Int) ≤ (y : Int) := by omega
      have hy1 : (y : Int) ≤ 9223372036854775807 := by omega
      go_wp2
      go_roundg (vform (y / 128)).length
      case measure => have := HK.out; have := HS.out; omega
      case rel => exact ⟨y / 128, n + 1, ⟨by have := HY.out; omega⟩, ⟨rfl⟩, by first | rfl | (go_num) | simp, by go_num, ⟨by have := HN.out; have := HS.out; omega⟩, rfl⟩
    · have HS := Aside.mk (vform_len_small (show y < 128 by omega))
      have hnv : n = (vform x).length := by have := HN.out; have := HS.out; omega
      replace hy : y < 128 := by omega
      have hd : decide ((128 : Int) ≤ (y : Int)) = false := decide_eq_false (by omega)
      clear HN HB
      go_wp2
      go_ret
      exact ⟨by first | rfl | (rw [hnv]; rfl), rfl⟩
end
section
open Go.RowKit
def u8s (bs : List UInt8) : List Value := bs.map fun b => .int .u8 b.toNat
theorem u8s_append (xs ys : List UInt8) : u8s (xs ++ ys) = u8s xs ++ u8s ys := by simp [u8s]
theorem u8s_length (xs : List UInt8) : (u8s xs).length = xs.length := by simp [u8s]
theorem Tryz.infoByte : (Tryz.prog.info? 5).map (fun i => (i.zero, i.size, i.bytes)) = some (some (.int .u8 0), 1, 1) := by kernel_rfl
def Moved (w : World) (v v' : Value) : Prop := v'.ownBlock = v.ownBlock ∨ ∃ k, v'.ownBlock = some k ∧ w.heap.size ≤ k
theorem vhi_lt : ∀ (n y : Nat), y < 128 ^ n → y < 128 ^ (vhi y).length := by
  intro n
  induction n with
  | zero =>
    intro y hy
    have : y = 0 := by simpa using hy
    subst this
    simp [vhi_zero]
  | succ n ih =>
    intro y hy
    rcases Nat.eq_zero_or_pos y with h0 | h0
    · subst h0; simp [vhi_zero]
    · have hyd : y / 128 < 128 ^ n := by rw [Nat.div_lt_iff_lt_mul (by omega)]; rw [Nat.pow_succ] at hy; omega
      have h := ih _ hyd
      rw [vhi_pos h0, List.length_append, List.length_singleton, Nat.pow_succ]
      rw [Nat.div_lt_iff_lt_mul (by omega)] at h
      exact h
/-- What has been written when the groups from k on are. -/
def vpre (x k : Nat) : List UInt8 := if k = 0 then vform x else vhi (x / 128 ^ k)
def vbyte (x i : Nat) : Nat := if i = 0 then x % 128 else x / 128 ^ i % 128 + 128
theorem vform_len (x : Nat) : (vform x).length = (vhi (x / 128)).length + 1 := by simp [vform]
theorem vpre_top {x : Nat} (hx : x < 9223372036854775808) : vpre x (vform x).length = [] := by
  have h := vhi_lt 9 (x / 128) (by rw [Nat.div_lt_iff_lt_mul (by omega)]; omega)
  unfold vpre
  rw [if_neg (by have := vform_pos x; omega), vform_len, Nat.pow_succ]
  rw [Nat.div_lt_iff_lt_mul (by omega)] at h
  rw [Nat.div_eq_of_lt h, vhi_zero]
theorem vpre_next {x i : Nat} (hi : i < (vform x).length) : vpre x i = vpre x (i + 1) ++ [UInt8.ofNat (vbyte x i)] := by
  unfold vpre vbyte
  rw [if_neg (show ¬ (i + 1 = 0) by omega)]
  rcases Nat.eq_zero_or_pos i with h0 | h0
  · subst h0
    rw [if_pos rfl, if_pos rfl]
    simp [vform]
  · rw [if_neg (by omega), if_neg (by omega)]
    have hp : 0 < x / 128 ^ i := by
      rcases Nat.eq_zero_or_pos (x / 128 ^ i) with hz | hz
      · have hlt : x < 128 ^ i := by
          rcases Nat.lt_or_ge x (128 ^ i) with q | q
          · exact q
          · have := Nat.div_pos q (Nat.pow_pos (by omega)); omega
        obtain ⟨j, rfl⟩ : ∃ j, i = j + 1 := ⟨i - 1, by omega⟩
        have hlt2 : x / 128 < 128 ^ j := by rw [Nat.div_lt_iff_lt_mul (by omega)]; rw [Nat.pow_succ] at hlt; exact hlt
        have := vhi_length j _ hlt2
        rw [vform_len] at hi
        omega
      · exact hz
    rw [vhi_pos hp, Nat.div_div_eq_div_mul, ← Nat.pow_succ, Nat.add_comm 128]
theorem and127 (a : Nat) (h : a < 256) : bits .and .u8 (a : Int) 127 = ((a % 128 : Nat) : Int) := by
  show IntKind.u8.wrap ((BitVec.ofInt 8 (a : Int) &&& BitVec.ofInt 8 127).toNat : Int) = _
  have h1 : (BitVec.ofInt 8 (a : Int)).toNat = a := by rw [BitVec.ofInt_natCast, BitVec.toNat_ofNat]; exact Nat.mod_eq_of_lt (by omega)
  have h2 : (BitVec.ofInt 8 127).toNat = 2 ^ 7 - 1 := by decide
  rw [BitVec.toNat_and, h1, h2, Nat.and_two_pow_sub_one_eq_mod]
  simp [IntKind.wrap, IntKind.signed, IntKind.bits]
  omega
theorem or128 (a : Nat) (h : a < 128) : bits .or .u8 (a : Int) 128 = ((a + 128 : Nat) : Int) := by
  show IntKind.u8.wrap ((BitVec.ofInt 8 (a : Int) ||| BitVec.ofInt 8 128).toNat : Int) = _
  have h1 : (BitVec.ofInt 8 (a : Int)).toNat = a := by rw [BitVec.ofInt_natCast, BitVec.toNat_ofNat]; exact Nat.mod_eq_of_lt (by omega)
  have h2 : (BitVec.ofInt 8 128).toNat = 128 := by decide
  rw [BitVec.toNat_or, h1, h2]
  have k := Nat.two_pow_add_eq_or_of_lt (i := 7) (b := a) (by omega) 1
  rw [Nat.or_comm, show (128 : Nat) = 2 ^ 7 * 1 by decide, ← k]
  simp [IntKind.wrap, IntKind.signed, IntKind.bits]
  omega
theorem grown_step {w w1 w2 : World} {v v1 v2 : Value} (h : w.grownBy w1 v.ownBlock) (m : Moved w v v1) (g : w1.grownBy w2 v1.ownBlock) (m2 : Moved w1 v1 v2) : w.grownBy w2 v.ownBlock ∧ Moved w v v2 := by
  refine ⟨⟨g.os.trans h.os, g.tape.trans h.tape, g.output.trans h.output, Nat.le_trans h.size g.size, fun k hk hne => ?_⟩, ?_⟩
  · refine (g.block k (Nat.lt_of_lt_of_le hk h.size) ?_).trans (h.block k hk hne)
    rcases m with e | ⟨q, e, hq⟩
    · rw [e]; exact hne
    · rw [e]; intro hc; have := Option.some.inj hc; omega
  · rcases m2 with e2 | ⟨q, e2, hq⟩
    · rcases m with e | ⟨q, e, hq⟩
      · exact .inl (e2.trans e)
      · exact .inr ⟨q, e2.trans e, hq⟩
    · exact .inr ⟨q, e2, Nat.le_trans h.size hq⟩
set_option maxHeartbeats 4000000 in
set_option maxRecDepth 100000 in
theorem vput_any (x : Nat) (hx : x < 9223372036854775808) {w : World} {v : Value} {bs : List UInt8} (B : Nat) (hB : B ≤ w.heap.size) (HO : w.ownsRow B 5 1 v bs.length (u8s bs)) (hl : bs.length ≤ 1099511627776) :
    Calls Tryz.prog 70 #[v, .int .i64 x] w fun e w' => ∃ v', e = .returned v' ∧ w'.ownsRow B 5 1 v' (bs ++ vform x).length (u8s (bs ++ vform x)) ∧ w.grownBy w' v.ownBlock ∧ Moved w v v' := by
  have HTop := Aside.mk (vpre_top hx)
  have HL10 : Aside ((vform x).length ≤ 10) := ⟨by
    have h := vhi_length 9 (x / 128) (by rw [Nat.div_lt_iff_lt_mul (by omega)]; omega)
    rw [vform_len]
    omega⟩
  have HO1 : Aside (w.ownsRow B 5 1 v (bs ++ vpre x (vform x).length).length (u8s (bs ++ vpre x (vform x).length))) := ⟨by rw [HTop.out, List.append_nil]; exact HO⟩
  have HBw := Aside.mk hB
  have HG1 : Aside (w.grownBy w v.ownBlock ∧ Moved w v v) := ⟨⟨rfl, rfl, rfl, Nat.le_refl _, fun _ _ _ => rfl⟩, .inl rfl⟩
  have HNx0 := Aside.mk (fun i => vpre_next (x := x) (i := i))
  have HLb := Aside.mk hl
  have HFin : Aside (∀ wr u, w.grownBy wr v.ownBlock ∧ Moved w v u → wr.ownsRow B 5 1 u (bs ++ vpre x 0).length (u8s (bs ++ vpre x 0)) → ∃ v', Ending.returned u = .returned v' ∧ wr.ownsRow B 5 1 v' (bs ++ vform x).length (u8s (bs ++ vform x)) ∧ w.grownBy wr v.ownBlock ∧ Moved w v v') := ⟨fun wr u h1 h2 => ⟨u, rfl, h2, h1.1, h1.2⟩⟩
  have hcall := vLen_any x hx w
  obtain ⟨L, hL⟩ : ∃ L, L = (vform x).length := ⟨_, rfl⟩
  have hLp : 0 < L := by rw [hL]; exact vform_pos x
  rw [← hL] at hcall HL10 HO1
  have HKL0 : Aside (L ≤ L) := ⟨Nat.le_refl _⟩
  have HLe := Aside.mk hL
  have hL10 : L ≤ 10 := HL10.out
  clear HO hB hl hL HTop
  go_enter Tryz.func70, Tryz.ntmps70
  have hmx : max (x : Int) 0 = (x : Int) := by omega
  go_wp2_with fail
  refine hcall.mono ?_
  clear hcall
  rintro e w1 ⟨rfl, rfl⟩
  go_wp2
  go_loopg [0, 5] L (fun kq v0 v5 wr => ∃ (k : Nat), Aside (k = kq) ∧ Aside (k ≤ L) ∧ v5 = .int .i64 ((k : Int) - 1) ∧ Aside (w1.grownBy wr v.ownBlock ∧ Moved w1 v v0) ∧ Aside (wr.ownsRow B 5 1 v0 (bs ++ vpre x k).length (u8s (bs ++ vpre x k))))
  case atStart => exact ⟨L, ⟨rfl⟩, HKL0, rfl, HG1, HO1⟩
  case round =>
    clear HG1 HO1
    obtain ⟨k, HK, HKL, rfl, HGr, HO0⟩ := hrel
    obtain ⟨A0, m0, c0, rfl⟩ : ∃ A m c, u0 = .slice A m c := by rcases HO0.out.2 with ⟨h, _⟩ | ⟨g, cap, cur, h, _⟩ <;> exact ⟨_, _, _, h⟩
    by_cases hk : 0 < k
    · obtain ⟨i, rfl⟩ : ∃ i, k = i + 1 := ⟨k - 1, by omega⟩
      have he : ((i + 1 : Nat) : Int) - 1 = (i : Int) := by omega
      rw [he]
      have hi9 : i ≤ 9 := by have := HKL.out; omega
      have HNx : Aside (vpre x i = vpre x (i + 1) ++ [UInt8.ofNat (vbyte x i)]) := ⟨HNx0.out i (by have := HKL.out; have := HLe.out; omega)⟩
      have hvb : vbyte x i < 256 := by unfold vbyte; split <;> omega
      have HU : Aside (u8s [UInt8.ofNat (vbyte x i)] = [.int .u8 (vbyte x i)]) := ⟨by
        simp only [u8s, List.map_cons, List.map_nil, UInt8.toNat_ofNat']
        rw [Nat.mod_eq_of_lt (by omega)]⟩
      have HLen : Aside ((bs ++ vpre x (i + 1)).length ≤ 1099511627800) := ⟨by
        rw [List.length_append]
        have h2 : (vpre x (i + 1)).length ≤ 9 := by
          unfold vpre
          rw [if_neg (by omega)]
          exact vhi_length 9 _ (Nat.lt_of_le_of_lt (Nat.div_le_self _ _) hx)
        have := HLb.out
        omega⟩
      have HBs : Aside (B ≤ wr.heap.size) := ⟨Nat.le_trans HBw.out HGr.out.1.size⟩
      have hg : bits .and .u8 ((x : Int) / 2 ^ (7 * i) % 256) 127 = ((x / 128 ^ i % 128 : Nat) : Int) := by
        have e1 : ((x : Int) / 2 ^ (7 * i) % 256) = ((x / 128 ^ i % 256 : Nat) : Int) := by
          have e2 : (2 : Int) ^ (7 * i) = ((128 ^ i : Nat) : Int) := by
            rw [show (2 : Int) ^ (7 * i) = ((2 ^ (7 * i) : Nat) : Int) by rw [Int.natCast_pow]; rfl, Nat.pow_mul]
          rw [e2]
          rfl
        rw [e1, and127 _ (by omega), Nat.mod_mod_of_dvd _ (by decide)]
      have ho := or128 (x / 128 ^ i % 128) (by omega)
      have hz : x / 128 ^ i % 128 < 128 := by omega
      by_cases h0 : 0 < i
      · have hv : vbyte x i = x / 128 ^ i % 128 + 128 := by unfold vbyte; rw [if_neg (by omega)]
        rw [hv] at HNx HU
        have di : decide ((0 : Int) < (i : Int)) = true := decide_eq_true (by omega)
        have din : decide (0 < i) = true := decide_eq_true (by omega)
        generalize x / 128 ^ i % 128 = z at *
        clear hvb hv
        go_wp2_with (at_builtin; go_must (refine app_one B rfl _ _ 25 5 (.int .u8 0) 1 1 rfl Tryz.underlying25 Tryz.infoByte rfl (by decide) (by decide) (.slice A0 m0 c0) (bs ++ vpre x (i + 1)).length _ [.int .u8 (((z + 128 : Nat) : Int))] rfl rfl rfl (by simp [Value.oneCell']) HO0.out HBs.out (by have := HLen.out; omega) ?_; intro v1 w6 hown hg6 hat; have HG6 := Aside.mk hg6; have HO6 := Aside.mk hown; have HAt := Aside.mk hat; clear hown hg6 hat))
        go_roundg i
        case measure => have := HK.out; omega
        case rel => exact ⟨i, ⟨by omega⟩, ⟨by have := HKL.out; omega⟩, by first | rfl | go_num, ⟨grown_step HGr.out.1 HGr.out.2 HG6.out (by rcases HAt.out with e | e; exact .inl e; exact .inr ⟨_, e, by omega⟩)⟩, ⟨by rw [HNx.out, ← List.append_assoc, u8s_append, List.length_append, HU.out]; exact HO6.out⟩⟩
      · have hi0 : i = 0 := by omega
        subst hi0
        have hv : vbyte x 0 = x % 128 := by unfold vbyte; simp
        have hg0 : bits .and .u8 ((x : Int) % 256) 127 = ((x % 128 : Nat) : Int) := by simpa using hg
        have hz0 : x % 128 < 128 := by omega
        rw [hv] at HNx HU
        clear hg ho hz
        generalize x % 128 = z at *
        clear hvb hv
        go_wp2_with (at_builtin; go_must (refine app_one B rfl _ _ 25 5 (.int .u8 0) 1 1 rfl Tryz.underlying25 Tryz.infoByte rfl (by decide) (by decide) (.slice A0 m0 c0) (bs ++ vpre x (0 + 1)).length _ [.int .u8 ((z : Int))] rfl rfl rfl (by simp [Value.oneCell']) HO0.out HBs.out (by have := HLen.out; omega) ?_; intro v1 w6 hown hg6 hat; have HG6 := Aside.mk hg6; have HO6 := Aside.mk hown; have HAt := Aside.mk hat; clear hown hg6 hat))
        go_roundg 0
        case measure => have := HK.out; omega
        case rel => exact ⟨0, ⟨by omega⟩, ⟨by have := HKL.out; omega⟩, by first | rfl | go_num, ⟨grown_step HGr.out.1 HGr.out.2 HG6.out (by rcases HAt.out with e | e; exact .inl e; exact .inr ⟨_, e, by omega⟩)⟩, ⟨by rw [HNx.out, ← List.append_assoc, u8s_append, List.length_append, HU.out]; exact HO6.out⟩⟩
    · have hk0 : k = 0 := by omega
      subst hk0
      have HP := Aside.mk (HFin.out wr _ HGr.out HO0.out)
      clear HO0 HGr HFin
      go_wp2
      go_ret
      exact HP.out
end
section
open Go.RowKit
def GrownPost (w : World) (bs : List UInt8) (e : Ending) (w' : World) : Prop := ∃ v, e = .returned v ∧ w'.ownsRow w.heap.size 5 1 v bs.length (u8s bs) ∧ Below w.heap.size w w'
theorem grown_fin {w : World} {n m : Nat} {bs : List UInt8} (hn : n = bs.length) (hm : n ≤ m) (hx : m ≤ maxLen) {cur : Array Value} (hc : cur.size = m) :
    ((w.alloc (.cells cur 5)).setRow w.heap.size (cur.toList.take 0 ++ (u8s bs ++ cur.toList.drop (0 + (u8s bs).length))).toArray).ownsRow w.heap.size 5 1 (.slice (some ⟨w.heap.size, 0, none⟩) n m) n (u8s bs) ∧
    Below w.heap.size w ((w.alloc (.cells cur 5)).setRow w.heap.size (cur.toList.take 0 ++ (u8s bs ++ cur.toList.drop (0 + (u8s bs).length))).toArray) := by
  subst hn
  have hu := u8s_length bs
  refine ⟨⟨by rw [hu, Nat.mul_one], .inr ⟨w.heap.size, m, (cur.toList.take 0 ++ (u8s bs ++ cur.toList.drop (0 + (u8s bs).length))).toArray, rfl, Nat.le_refl _, ?_, hm, hx, ?_, ?_⟩⟩, below_setRow ((Below.refl _ _).alloc (Nat.le_refl _) _) (Nat.le_refl _) _⟩
  · exact setRow_heap _ _ _ _ _ _ (heap_alloc_new _ _)
  · simp [hc, hu]; omega
  · simp [← hu]
set_option maxHeartbeats 4000000 in
set_option maxRecDepth 100000 in
theorem grown_any {w : World} {ok : Nat → Prop} {v : Value} {bs : List UInt8} (more : Nat) (hmore : more ≤ 1099511627776) (hs : Sl kbyte w ok v bs) (hl : bs.length ≤ 1099511627776) : Calls Tryz.prog 71 #[v, .int .i64 more] w (GrownPost w bs) := by
  obtain ⟨A, c, rfl, hc, hm⟩ := hs.slice
  obtain ⟨i0, hi0, hz0, hz1, hz2⟩ := info_parts Tryz.infoByte
  have hmk : (Instr.makeSlice 25 (.int .i64 (bs.length : Int)) (.int .i64 ((bs.length : Int) + (more : Int)))).run Tryz.prog w = .ok (.slice (some ⟨w.heap.size, 0, none⟩) bs.length (bs.length + more)) (w.alloc (.cells (madeCells #[.int .u8 0] (bs.length + more)) 5)) := by
    have h := run_make (P := Tryz.prog) w 25 5 i0 _ Tryz.underlying25 hi0 hz0 .i64 .i64 (bs.length : Int) ((bs.length : Int) + (more : Int)) (by omega) (by omega) (by rw [hz2]; omega) (by omega)
    have e : ((bs.length : Int) + (more : Int)).toNat = bs.length + more := by omega
    rw [e, hz1] at h
    simpa [Value.cells] using h
  have HB0 := Aside.mk ((Below.refl w.heap.size w).alloc (Nat.le_refl _) (.cells (madeCells #[.int .u8 0] (bs.length + more)) 5))
  have HS0 := Aside.mk (hs.below HB0.out)
  have HFin := Aside.mk (grown_fin (w := w) (n := bs.length) (m := bs.length + more) (bs := bs) rfl (by omega) (by simp only [maxLen]; omega) (cur := madeCells #[.int .u8 0] (bs.length + more)) (by simp [size_madeCells]))
  have HMade : Aside (bs.length = 0 → (w.alloc (.cells (madeCells #[.int .u8 0] (bs.length + more)) 5)).ownsRow w.heap.size 5 1 (.slice (some ⟨w.heap.size, 0, none⟩) bs.length (bs.length + more)) bs.length (u8s bs)) := ⟨fun h0 => by
    obtain rfl := List.eq_nil_of_length_eq_zero h0
    exact World.ownsRow_made w _ _ (Nat.le_refl _) (by simp only [maxLen]; omega) (by rw [size_madeCells]; simp)⟩
  clear hs hi0 hz0 hz1 hz2
  go_enter Tryz.func71, Tryz.ntmps71
  by_cases h0 : bs.length = 0
  · have H0 := Aside.mk h0
    clear h0
    have HP : Aside (GrownPost w bs (.returned (.slice (some ⟨w.heap.size, 0, none⟩) bs.length (bs.length + more))) (w.alloc (.cells (madeCells #[.int .u8 0] (bs.length + more)) 5))) := ⟨_, rfl, HMade.out H0.out, HB0.out⟩
    go_wp2_with ((with_reducible show wpList _ _ _ _ _ _); (refine wpList_copy_nothing (o := ⟨some 15, _, _, _, _, _⟩) rfl _ _ 25 25 rfl 5 Tryz.underlying25 (by kernel_rfl) _ _ _ _ _ _ rfl rfl (by simp [H0.out]) ?_))
    go_ret
    exact HP.out
  · have H0 := Aside.mk h0
    obtain ⟨b, o, cs, hA, -⟩ := HS0.out.at 0 (by omega)
    subst hA
    have HP : Aside (GrownPost w bs (.returned (.slice (some ⟨w.heap.size, 0, none⟩) bs.length (bs.length + more))) ((w.alloc (.cells (madeCells #[.int .u8 0] (bs.length + more)) 5)).setRow w.heap.size ((madeCells #[.int .u8 0] (bs.length + more)).toList.take 0 ++ (u8s bs ++ (madeCells #[.int .u8 0] (bs.length + more)).toList.drop (0 + (u8s bs).length))).toArray)) := ⟨_, rfl, HFin.out.1, HFin.out.2⟩
    have HSrc : Aside (∀ j v, (u8s bs)[j]? = some v → (w.alloc (.cells (madeCells #[.int .u8 0] (bs.length + more)) 5)).cell? ((⟨b, o, none⟩ : Addr).add j) = some v) := ⟨fun j v hj => by
      have hjl : j < bs.length := by have := (List.getElem?_eq_some_iff.1 hj).1; rwa [u8s_length] at this
      obtain ⟨b', o', e, hc⟩ := HS0.out.byte j hjl
      cases e
      rw [addr_add, hc]
      unfold u8s at hj
      rw [List.getElem?_map, List.getElem?_eq_getElem hjl] at hj
      simpa using hj⟩
    clear h0
    go_wp2_with ((with_reducible show wpList _ _ _ _ _ _); (refine wpList_copy_own (o := ⟨some 15, _, _, _, _, _⟩) rfl _ _ 25 25 rfl 5 Tryz.underlying25 (by kernel_rfl) w.heap.size 0 _ _ ⟨b, o, none⟩ _ _ rfl rfl (madeCells #[.int .u8 0] (bs.length + more)) 5 (heap_alloc_new _ _) (u8s bs) (by rw [u8s_length]; simp) HSrc.out (by rw [u8s_length]; simp [size_madeCells]) (fun u hu => by unfold u8s at hu; obtain ⟨b, _, rfl⟩ := List.mem_map.1 hu; rfl) ?_))
    go_ret
    have hp := HP.out
    simp only [List.take_zero, List.nil_append, Nat.zero_add] at hp
    first | exact hp | simpa using hp
set_option maxHeartbeats 4000000 in
set_option maxRecDepth 100000 in
/-- varint.Put: a copy of the bytes, the number's form behind them. -/
theorem vPut_any (x : Nat) (hx : x < 9223372036854775808) {w : World} {ok : Nat → Prop} {v : Value} {bs : List UInt8} (hs : Sl kbyte w ok v bs) (hl : bs.length ≤ 1099511627776) : Calls Tryz.prog 30 #[v, .int .i64 x] w (GrownPost w (bs ++ vform x)) := by
  obtain ⟨A, c, rfl, hc, hm⟩ := hs.slice
  have hcall := grown_any 9 (by omega) hs hl
  have HL := Aside.mk hl
  clear hs
  go_enter Tryz.func30, Tryz.ntmps30
  go_wp2_with fail
  refine hcall.mono ?_
  clear hcall
  rintro e w1 ⟨v1, rfl, ho, B1⟩
  have HB := Aside.mk B1
  have HO := Aside.mk ho
  have hcall := vput_any x hx w.heap.size B1.size ho hl
  obtain ⟨A1, m1, c1, rfl⟩ : ∃ A m c, v1 = .slice A m c := by rcases ho.2 with ⟨h, _⟩ | ⟨g, cap, cur, h, _⟩ <;> exact ⟨_, _, _, h⟩
  clear ho B1
  go_wp2_with fail
  refine hcall.mono ?_
  clear hcall
  rintro e w2 ⟨v2, rfl, ho2, hg2, _⟩
  have HP : Aside (GrownPost w (bs ++ vform x) (.returned v2) w2) := ⟨v2, rfl, ho2, HB.out.grown hg2 HB.out.size fun q e => (HO.out.lt q e).1⟩
  obtain ⟨A2, m2, c2, rfl⟩ : ∃ A m c, v2 = .slice A m c := by rcases ho2.2 with ⟨h, _⟩ | ⟨g, cap, cur, h, _⟩ <;> exact ⟨_, _, _, h⟩
  clear ho2 hg2
  go_wp2
  go_ret
  exact HP.out
end
end Go.Proofs.YtjncnppbaldmiaaGreatDoor
