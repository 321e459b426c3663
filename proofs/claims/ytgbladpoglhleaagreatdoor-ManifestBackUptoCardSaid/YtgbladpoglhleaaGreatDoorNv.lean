/- manifest.number walked: the i-th number of four bytes. No condition. -/
import Derived.Test.YtgbladpoglhleaaGreatDoorVr
namespace Go.Proofs.YtgbladpoglhleaaGreatDoor
open Go.RowKit
/-- The number that four bytes say. -/
def numAt (bs : List UInt8) (i : Nat) : Int := (bs.getD i 0).toNat * 16777216 + (bs.getD (i + 1) 0).toNat * 65536 + (bs.getD (i + 2) 0).toNat * 256 + (bs.getD (i + 3) 0).toNat
def NumPost (w : World) (bs : List UInt8) (i : Nat) (e : Ending) (w' : World) : Prop := e = .returned (.int .i64 (numAt bs i)) ∧ Below w.heap.size w w'
theorem or_nat (a b : Nat) (ha : a < 4611686018427387904) (hb : b < 4611686018427387904) : bits .or .i64 (a : Int) (b : Int) = ((a ||| b : Nat) : Int) := by
  have hx : a ||| b < 2 ^ 62 := Nat.or_lt_two_pow (by omega) (by omega)
  have h1 : (BitVec.ofInt 64 (a : Int)).toNat = a := by
    rw [BitVec.ofInt_natCast, BitVec.toNat_ofNat]; exact Nat.mod_eq_of_lt (by omega)
  have h2 : (BitVec.ofInt 64 (b : Int)).toNat = b := by
    rw [BitVec.ofInt_natCast, BitVec.toNat_ofNat]; exact Nat.mod_eq_of_lt (by omega)
  show IntKind.i64.wrap ((BitVec.ofInt 64 (a : Int) ||| BitVec.ofInt 64 (b : Int)).toNat : Int) = _
  rw [BitVec.toNat_or, h1, h2]
  exact Go.IntWalk.i64_in _ (by generalize (a ||| b) = z at *; omega)
theorem or_four (x0 x1 x2 x3 : Nat) (h0 : x0 < 2 ^ 8) (h1 : x1 < 2 ^ 8) (h2 : x2 < 2 ^ 8) (h3 : x3 < 2 ^ 8) :
    bits .or .i64 (bits .or .i64 (bits .or .i64 ((x0 : Int) * 16777216) ((x1 : Int) * 65536)) ((x2 : Int) * 256)) (x3 : Int) = (x0 : Int) * 16777216 + (x1 : Int) * 65536 + (x2 : Int) * 256 + x3 := by
  have e1 : bits .or .i64 ((x0 : Int) * 16777216) ((x1 : Int) * 65536) = ((x0 * 16777216 + x1 * 65536 : Nat) : Int) := by
    have h := or_nat (x0 * 16777216) (x1 * 65536) (by omega) (by omega)
    have k := Nat.two_pow_add_eq_or_of_lt (i := 24) (b := x1 * 65536) (by omega) x0
    rw [show 2 ^ 24 * x0 = x0 * 16777216 by omega] at k
    rw [← k] at h
    simpa using h
  rw [e1]
  have e2 : bits .or .i64 ((x0 * 16777216 + x1 * 65536 : Nat) : Int) ((x2 : Int) * 256) = ((x0 * 16777216 + x1 * 65536 + x2 * 256 : Nat) : Int) := by
    have h := or_nat (x0 * 16777216 + x1 * 65536) (x2 * 256) (by omega) (by omega)
    have k := Nat.two_pow_add_eq_or_of_lt (i := 16) (b := x2 * 256) (by omega) (x0 * 256 + x1)
    rw [show 2 ^ 16 * (x0 * 256 + x1) = x0 * 16777216 + x1 * 65536 by omega] at k
    rw [← k] at h
    simpa using h
  rw [e2]
  have h := or_nat (x0 * 16777216 + x1 * 65536 + x2 * 256) x3 (by omega) (by omega)
  have k := Nat.two_pow_add_eq_or_of_lt (i := 8) (b := x3) (by omega) (x0 * 65536 + x1 * 256 + x2)
  rw [show 2 ^ 8 * (x0 * 65536 + x1 * 256 + x2) = x0 * 16777216 + x1 * 65536 + x2 * 256 by omega] at k
  rw [← k] at h
  rw [h]
  simp
set_option maxHeartbeats 4000000 in
set_option maxRecDepth 100000 in
theorem number_any {w : World} {ok : Nat → Prop} {v : Value} {bs : List UInt8} (i : Nat) (hs : Sl kbyte w ok v bs) (hi : i < 4) (hl : 4 * i + 4 ≤ bs.length) : Calls Tryz.prog 59 #[v, .int .i64 i] w (NumPost w bs (4 * i)) := by
  obtain ⟨A, c, rfl, hc, hm⟩ := hs.slice
  obtain ⟨b, o, e, k0⟩ := hs.byte (4 * i) (by omega)
  obtain ⟨b1, o1, e1, k1⟩ := hs.byte (4 * i + 1) (by omega)
  obtain ⟨b2, o2, e2, k2⟩ := hs.byte (4 * i + 2) (by omega)
  obtain ⟨b3, o3, e3, k3⟩ := hs.byte (4 * i + 3) (by omega)
  cases e
  cases e1
  cases e2
  cases e3
  go_enter Tryz.func59, Tryz.ntmps59
  go_wp2
  have HN : Aside (numAt bs (4 * i) = (bs[4 * i].toNat : Int) * 16777216 + (bs[4 * i + 1].toNat : Int) * 65536 + (bs[4 * i + 2].toNat : Int) * 256 + bs[4 * i + 3].toNat) := ⟨by simp [numAt, List.getD_eq_getElem?_getD, show 4 * i < bs.length by omega, show 4 * i + 1 < bs.length by omega, show 4 * i + 2 < bs.length by omega, show 4 * i + 3 < bs.length by omega]⟩
  rw [show o + (4 * i + 1) = o + 4 * i + 1 by omega] at k1
  rw [show o + (4 * i + 2) = o + 4 * i + 2 by omega] at k2
  rw [show o + (4 * i + 3) = o + 4 * i + 3 by omega] at k3
  generalize o + 4 * i = p at *
  have b0 := bs[4 * i].toNat_lt
  have b1 := bs[4 * i + 1].toNat_lt
  have b2 := bs[4 * i + 2].toNat_lt
  have b3 := bs[4 * i + 3].toNat_lt
  generalize bs[4 * i].toNat = x0 at *
  generalize bs[4 * i + 1].toNat = x1 at *
  generalize bs[4 * i + 2].toNat = x2 at *
  generalize bs[4 * i + 3].toNat = x3 at *
  go_quiet (fail)
  go_wp2
  go_ret
  exact ⟨by rw [HN.out, or_four x0 x1 x2 x3 b0 b1 b2 b3]; rfl, bdrew (Below.refl _ _) _⟩
end Go.Proofs.YtgbladpoglhleaaGreatDoor
