/- varint.put walked: a number's form behind bytes that the caller owns. No condition. -/
import Derived.Test.YtgbladpoglhleaaGreatDoorVl
import Derived.WalkSmall
namespace Go.Proofs.YtgbladpoglhleaaGreatDoor
open Go.RowKit
def u8s (bs : List UInt8) : List Value := bs.map fun b => .int .u8 b.toNat
theorem u8s_append (xs ys : List UInt8) : u8s (xs ++ ys) = u8s xs ++ u8s ys := by simp [u8s]
theorem u8s_length (xs : List UInt8) : (u8s xs).length = xs.length := by simp [u8s]
theorem Tryz.infoByte : (Tryz.prog.info? 5).map (fun i => (i.zero, i.size, i.bytes)) = some (some (.int .u8 0), 1, 1) := by kernel_rfl
def Moved (w : World) (v v' : Value) : Prop := v'.ownBlock = v.ownBlock ∨ ∃ k, v'.ownBlock = some k ∧ w.heap.size ≤ k
theorem vhi_lt : ∀ (n y : Nat), y < 128 ^ n → y < 128 ^ (vhi y).length := by
  intro n
  induction n with
  | zero =>
    intro y hy
    have : y = 0 := by simpa using hy
    subst this
    simp [vhi_zero]
  | succ n ih =>
    intro y hy
    rcases Nat.eq_zero_or_pos y with h0 | h0
    · subst h0; simp [vhi_zero]
    · have hyd : y / 128 < 128 ^ n := by rw [Nat.div_lt_iff_lt_mul (by omega)]; rw [Nat.pow_succ] at hy; omega
      have h := ih _ hyd
      rw [vhi_pos h0, List.length_append, List.length_singleton, Nat.pow_succ]
      rw [Nat.div_lt_iff_lt_mul (by omega)] at h
      exact h
/-- What has been written when the groups from k on are. -/
def vpre (x k : Nat) : List UInt8 := if k = 0 then vform x else vhi (x / 128 ^ k)
def vbyte (x i : Nat) : Nat := if i = 0 then x % 128 else x / 128 ^ i % 128 + 128
theorem vform_len (x : Nat) : (vform x).length = (vhi (x / 128)).length + 1 := by simp [vform]
theorem vpre_top {x : Nat} (hx : x < 9223372036854775808) : vpre x (vform x).length = [] := by
  have h := vhi_lt 9 (x / 128) (by rw [Nat.div_lt_iff_lt_mul (by omega)]; omega)
  unfold vpre
  rw [if_neg (by have := vform_pos x; omega), vform_len, Nat.pow_succ]
  rw [Nat.div_lt_iff_lt_mul (by omega)] at h
  rw [Nat.div_eq_of_lt h, vhi_zero]
theorem vpre_next {x i : Nat} (hi : i < (vform x).length) : vpre x i = vpre x (i + 1) ++ [UInt8.ofNat (vbyte x i)] := by
  unfold vpre vbyte
  rw [if_neg (show ¬ (i + 1 = 0) by omega)]
  rcases Nat.eq_zero_or_pos i with h0 | h0
  · subst h0
    rw [if_pos rfl, if_pos rfl]
    simp [vform]
  · rw [if_neg (by omega), if_neg (by omega)]
    have hp : 0 < x / 128 ^ i := by
      rcases Nat.eq_zero_or_pos (x / 128 ^ i) with hz | hz
      · have hlt : x < 128 ^ i := by
          rcases Nat.lt_or_ge x (128 ^ i) with q | q
          · exact q
          · have := Nat.div_pos q (Nat.pow_pos (by omega)); omega
        obtain ⟨j, rfl⟩ : ∃ j, i = j + 1 := ⟨i - 1, by omega⟩
        have hlt2 : x / 128 < 128 ^ j := by rw [Nat.div_lt_iff_lt_mul (by omega)]; rw [Nat.pow_succ] at hlt; exact hlt
        have := vhi_length j _ hlt2
        rw [vform_len] at hi
        omega
      · exact hz
    rw [vhi_pos hp, Nat.div_div_eq_div_mul, ← Nat.pow_succ, Nat.add_comm 128]
theorem and127 (a : Nat) (h : a < 256) : bits .and .u8 (a : Int) 127 = ((a % 128 : Nat) : Int) := by
  show IntKind.u8.wrap ((BitVec.ofInt 8 (a : Int) &&& BitVec.ofInt 8 127).toNat : Int) = _
  have h1 : (BitVec.ofInt 8 (a : Int)).toNat = a := by rw [BitVec.ofInt_natCast, BitVec.toNat_ofNat]; exact Nat.mod_eq_of_lt (by omega)
  have h2 : (BitVec.ofInt 8 127).toNat = 2 ^ 7 - 1 := by decide
  rw [BitVec.toNat_and, h1, h2, Nat.and_two_pow_sub_one_eq_mod]
  simp [IntKind.wrap, IntKind.signed, IntKind.bits]
  omega
theorem or128 (a : Nat) (h : a < 128) : bits .or .u8 (a : Int) 128 = ((a + 128 : Nat) : Int) := by
  show IntKind.u8.wrap ((BitVec.ofInt 8 (a : Int) ||| BitVec.ofInt 8 128).toNat : Int) = _
  have h1 : (BitVec.ofInt 8 (a : Int)).toNat = a := by rw [BitVec.ofInt_natCast, BitVec.toNat_ofNat]; exact Nat.mod_eq_of_lt (by omega)
  have h2 : (BitVec.ofInt 8 128).toNat = 128 := by decide
  rw [BitVec.toNat_or, h1, h2]
  have k := Nat.two_pow_add_eq_or_of_lt (i := 7) (b := a) (by omega) 1
  rw [Nat.or_comm, show (128 : Nat) = 2 ^ 7 * 1 by decide, ← k]
  simp [IntKind.wrap, IntKind.signed, IntKind.bits]
  omega
theorem grown_step {w w1 w2 : World} {v v1 v2 : Value} (h : w.grownBy w1 v.ownBlock) (m : Moved w v v1) (g : w1.grownBy w2 v1.ownBlock) (m2 : Moved w1 v1 v2) : w.grownBy w2 v.ownBlock ∧ Moved w v v2 := by
  refine ⟨⟨g.os.trans h.os, g.tape.trans h.tape, g.output.trans h.output, Nat.le_trans h.size g.size, fun k hk hne => ?_⟩, ?_⟩
  · refine (g.block k (Nat.lt_of_lt_of_le hk h.size) ?_).trans (h.block k hk hne)
    rcases m with e | ⟨q, e, hq⟩
    · rw [e]; exact hne
    · rw [e]; intro hc; have := Option.some.inj hc; omega
  · rcases m2 with e2 | ⟨q, e2, hq⟩
    · rcases m with e | ⟨q, e, hq⟩
      · exact .inl (e2.trans e)
      · exact .inr ⟨q, e2.trans e, hq⟩
    · exact .inr ⟨q, e2, Nat.le_trans h.size hq⟩
set_option maxHeartbeats 4000000 in
set_option maxRecDepth 100000 in
theorem vput_any (x : Nat) (hx : x < 9223372036854775808) {w : World} {v : Value} {bs : List UInt8} (B : Nat) (hB : B ≤ w.heap.size) (HO : w.ownsRow B 5 1 v bs.length (u8s bs)) (hl : bs.length ≤ 1099511627776) :
    Calls Tryz.prog 80 #[v, .int .i64 x] w fun e w' => ∃ v', e = .returned v' ∧ w'.ownsRow B 5 1 v' (bs ++ vform x).length (u8s (bs ++ vform x)) ∧ w.grownBy w' v.ownBlock ∧ Moved w v v' := by
  have HTop := Aside.mk (vpre_top hx)
  have HL10 : Aside ((vform x).length ≤ 10) := ⟨by
    have h := vhi_length 9 (x / 128) (by rw [Nat.div_lt_iff_lt_mul (by omega)]; omega)
    rw [vform_len]
    omega⟩
  have HO1 : Aside (w.ownsRow B 5 1 v (bs ++ vpre x (vform x).length).length (u8s (bs ++ vpre x (vform x).length))) := ⟨by rw [HTop.out, List.append_nil]; exact HO⟩
  have HBw := Aside.mk hB
  have HG1 : Aside (w.grownBy w v.ownBlock ∧ Moved w v v) := ⟨⟨rfl, rfl, rfl, Nat.le_refl _, fun _ _ _ => rfl⟩, .inl rfl⟩
  have HNx0 := Aside.mk (fun i => vpre_next (x := x) (i := i))
  have HLb := Aside.mk hl
  have HFin : Aside (∀ wr u, w.grownBy wr v.ownBlock ∧ Moved w v u → wr.ownsRow B 5 1 u (bs ++ vpre x 0).length (u8s (bs ++ vpre x 0)) → ∃ v', Ending.returned u = .returned v' ∧ wr.ownsRow B 5 1 v' (bs ++ vform x).length (u8s (bs ++ vform x)) ∧ w.grownBy wr v.ownBlock ∧ Moved w v v') := ⟨fun wr u h1 h2 => ⟨u, rfl, h2, h1.1, h1.2⟩⟩
  have hcall := vLen_any x hx w
  obtain ⟨L, hL⟩ : ∃ L, L = (vform x).length := ⟨_, rfl⟩
  have hLp : 0 < L := by rw [hL]; exact vform_pos x
  rw [← hL] at hcall HL10 HO1
  have HKL0 : Aside (L ≤ L) := ⟨Nat.le_refl _⟩
  have HLe := Aside.mk hL
  have hL10 : L ≤ 10 := HL10.out
  clear HO hB hl hL HTop
  go_enter Tryz.func80, Tryz.ntmps80
  have hmx : max (x : Int) 0 = (x : Int) := by omega
  go_wp2_with fail
  refine hcall.mono ?_
  clear hcall
  rintro e w1 ⟨rfl, rfl⟩
  go_wp2
  go_loopg [0, 5] L (fun kq v0 v5 wr => ∃ (k : Nat), Aside (k = kq) ∧ Aside (k ≤ L) ∧ v5 = .int .i64 ((k : Int) - 1) ∧ Aside (w1.grownBy wr v.ownBlock ∧ Moved w1 v v0) ∧ Aside (wr.ownsRow B 5 1 v0 (bs ++ vpre x k).length (u8s (bs ++ vpre x k))))
  case atStart => exact ⟨L, ⟨rfl⟩, HKL0, rfl, HG1, HO1⟩
  case round =>
    clear HG1 HO1
    obtain ⟨k, HK, HKL, rfl, HGr, HO0⟩ := hrel
    obtain ⟨A0, m0, c0, rfl⟩ : ∃ A m c, u0 = .slice A m c := by rcases HO0.out.2 with ⟨h, _⟩ | ⟨g, cap, cur, h, _⟩ <;> exact ⟨_, _, _, h⟩
    by_cases hk : 0 < k
    · obtain ⟨i, rfl⟩ : ∃ i, k = i + 1 := ⟨k - 1, by omega⟩
      have he : ((i + 1 : Nat) : Int) - 1 = (i : Int) := by omega
      rw [he]
      have hi9 : i ≤ 9 := by have := HKL.out; omega
      have HNx : Aside (vpre x i = vpre x (i + 1) ++ [UInt8.ofNat (vbyte x i)]) := ⟨HNx0.out i (by have := HKL.out; have := HLe.out; omega)⟩
      have hvb : vbyte x i < 256 := by unfold vbyte; split <;> omega
      have HU : Aside (u8s [UInt8.ofNat (vbyte x i)] = [.int .u8 (vbyte x i)]) := ⟨by
        simp only [u8s, List.map_cons, List.map_nil, UInt8.toNat_ofNat']
        rw [Nat.mod_eq_of_lt (by omega)]⟩
      have HLen : Aside ((bs ++ vpre x (i + 1)).length ≤ 1099511627800) := ⟨by
        rw [List.length_append]
        have h2 : (vpre x (i + 1)).length ≤ 9 := by
          unfold vpre
          rw [if_neg (by omega)]
          exact vhi_length 9 _ (Nat.lt_of_le_of_lt (Nat.div_le_self _ _) hx)
        have := HLb.out
        omega⟩
      have HBs : Aside (B ≤ wr.heap.size) := ⟨Nat.le_trans HBw.out HGr.out.1.size⟩
      have hg : bits .and .u8 ((x : Int) / 2 ^ (7 * i) % 256) 127 = ((x / 128 ^ i % 128 : Nat) : Int) := by
        have e1 : ((x : Int) / 2 ^ (7 * i) % 256) = ((x / 128 ^ i % 256 : Nat) : Int) := by
          have e2 : (2 : Int) ^ (7 * i) = ((128 ^ i : Nat) : Int) := by
            rw [show (2 : Int) ^ (7 * i) = ((2 ^ (7 * i) : Nat) : Int) by rw [Int.natCast_pow]; rfl, Nat.pow_mul]
          rw [e2]
          rfl
        rw [e1, and127 _ (by omega), Nat.mod_mod_of_dvd _ (by decide)]
      have ho := or128 (x / 128 ^ i % 128) (by omega)
      have hz : x / 128 ^ i % 128 < 128 := by omega
      by_cases h0 : 0 < i
      · have hv : vbyte x i = x / 128 ^ i % 128 + 128 := by unfold vbyte; rw [if_neg (by omega)]
        rw [hv] at HNx HU
        have di : decide ((0 : Int) < (i : Int)) = true := decide_eq_true (by omega)
        have din : decide (0 < i) = true := decide_eq_true (by omega)
        generalize x / 128 ^ i % 128 = z at *
        clear hvb hv
        go_wp2_with (at_builtin; go_must (refine app_one B rfl _ _ 44 5 (.int .u8 0) 1 1 rfl Tryz.underlying44 Tryz.infoByte rfl (by decide) (by decide) (.slice A0 m0 c0) (bs ++ vpre x (i + 1)).length _ [.int .u8 (((z + 128 : Nat) : Int))] rfl rfl rfl (by simp [Value.oneCell']) HO0.out HBs.out (by have := HLen.out; omega) ?_; intro v1 w6 hown hg6 hat; have HG6 := Aside.mk hg6; have HO6 := Aside.mk hown; have HAt := Aside.mk hat; clear hown hg6 hat))
        go_roundg i
        case measure => have := HK.out; omega
        case rel => exact ⟨i, ⟨by omega⟩, ⟨by have := HKL.out; omega⟩, by first | rfl | go_num, ⟨grown_step HGr.out.1 HGr.out.2 HG6.out (by rcases HAt.out with e | e; exact .inl e; exact .inr ⟨_, e, by omega⟩)⟩, ⟨by rw [HNx.out, ← List.append_assoc, u8s_append, List.length_append, HU.out]; exact HO6.out⟩⟩
      · have hi0 : i = 0 := by omega
        subst hi0
        have hv : vbyte x 0 = x % 128 := by unfold vbyte; simp
        have hg0 : bits .and .u8 ((x : Int) % 256) 127 = ((x % 128 : Nat) : Int) := by simpa using hg
        have hz0 : x % 128 < 128 := by omega
        rw [hv] at HNx HU
        clear hg ho hz
        generalize x % 128 = z at *
        clear hvb hv
        go_wp2_with (at_builtin; go_must (refine app_one B rfl _ _ 44 5 (.int .u8 0) 1 1 rfl Tryz.underlying44 Tryz.infoByte rfl (by decide) (by decide) (.slice A0 m0 c0) (bs ++ vpre x (0 + 1)).length _ [.int .u8 ((z : Int))] rfl rfl rfl (by simp [Value.oneCell']) HO0.out HBs.out (by have := HLen.out; omega) ?_; intro v1 w6 hown hg6 hat; have HG6 := Aside.mk hg6; have HO6 := Aside.mk hown; have HAt := Aside.mk hat; clear hown hg6 hat))
        go_roundg 0
        case measure => have := HK.out; omega
        case rel => exact ⟨0, ⟨by omega⟩, ⟨by have := HKL.out; omega⟩, by first | rfl | go_num, ⟨grown_step HGr.out.1 HGr.out.2 HG6.out (by rcases HAt.out with e | e; exact .inl e; exact .inr ⟨_, e, by omega⟩)⟩, ⟨by rw [HNx.out, ← List.append_assoc, u8s_append, List.length_append, HU.out]; exact HO6.out⟩⟩
    · have hk0 : k = 0 := by omega
      subst hk0
      have HP := Aside.mk (HFin.out wr _ HGr.out HO0.out)
      clear HO0 HGr HFin
      go_wp2
      go_ret
      exact HP.out
end Go.Proofs.YtgbladpoglhleaaGreatDoor
