/- What a manifest's frames are. No program. No condition. -/
import Derived.Test.YtgbladpoglhleaaGreatDoorRg
namespace Go.Proofs.YtgbladpoglhleaaGreatDoor
open Go.RowKit
def shB (c : Int) (s : Info) : List UInt8 := fours [c, s.Size, (s.Sum.toNat : Int), s.Arcs]
def shRow (m : Man) (i : Nat) : List UInt8 := shB (m.Cuts.getD i 0) (m.Shards.getD i iD)
def segS (m : Man) (a e : Nat) : List UInt8 := ((List.range e).drop a).flatMap (shRow m)
theorem shB_len (c : Int) (s : Info) : (shB c s).length = 16 := by unfold shB; rw [fours_length]; rfl
theorem segS_none (m : Man) (a : Nat) : segS m a a = [] := by
  unfold segS
  rw [List.drop_eq_nil_of_le (by simp)]; rfl
theorem segS_step (m : Man) {a e : Nat} (h : a ≤ e) : segS m a (e + 1) = segS m a e ++ shRow m e := by
  unfold segS
  rw [List.range_succ, List.drop_append_of_le_length (by simpa using h), List.flatMap_append]
  simp
theorem segS_len (m : Man) (a e : Nat) : (segS m a e).length = 16 * (e - a) := by
  induction e with
  | zero => simp [segS]
  | succ e ih =>
    by_cases h : a ≤ e
    · rw [segS_step m h, List.length_append, ih, shRow, shB_len]; omega
    · unfold segS
      rw [List.drop_eq_nil_of_le (by simp; omega)]
      simp; omega
def rowS (m : Man) (k : Nat) : List UInt8 := segS m (50 * k) (min (50 * (k + 1)) m.Shards.length)
def dataS (m : Man) : List (List UInt8) := (List.range ((m.Shards.length + 49) / 50)).map (rowS m)
def vI (d : Int) : List UInt8 := vform d.toNat
def chD (ds : List Int) (k : Nat) : List Int := (ds.drop (200 * k)).take 200
def rowD (c : List Int) : List UInt8 := c.flatMap vI
def dataD (ds : List Int) : List (List UInt8) := (List.range (cnt ds.length)).map fun k => rowD (chD ds k)
def dataM (m : Man) : List (List UInt8) := dataS m ++ dataD m.Degrees
def headM (m : Man) : List UInt8 := fours [m.Gen, m.N, (m.Shards.length : Int)]
theorem rowD_take {c : List Int} {i : Nat} (hi : i < c.length) : rowD (c.take (i + 1)) = rowD (c.take i) ++ vI c[i] := by
  unfold rowD
  rw [take_snoc hi, List.flatMap_append]
  simp
theorem chD_len (ds : List Int) (k : Nat) : (chD ds k).length = min 200 (ds.length - 200 * k) := by simp [chD]
def EncPost (w : World) (m : Man) (e : Ending) (w' : World) : Prop :=
  (mayF m = true → ∃ hv dv vs, e = .returned (.tuple #[hv, dv, .int .i64 0]) ∧ w'.ownsRow w.heap.size 5 1 hv (headM m).length (u8s (headM m)) ∧ BL w' w.heap.size dv vs (dataM m)) ∧
  (mayF m = false → e = .returned (.tuple #[.slice none 0 0, .slice none 0 0, .int .i64 142])) ∧ Below w.heap.size w w'
theorem enc_no {w w' : World} {m : Man} (h : mayF m = false) (hb : Below w.heap.size w w') : EncPost w m (.returned (.tuple #[.slice none 0 0, .slice none 0 0, .int .i64 142])) w' :=
  ⟨fun e => absurd (e.symm.trans h) (by decide), fun _ => rfl, hb⟩
/-- What may makes sure of. -/
structure MayOk (m : Man) : Prop where
  gen : 1 ≤ m.Gen ∧ m.Gen ≤ 2147483647
  n : 0 ≤ m.N ∧ m.N ≤ 16777216
  nc : m.Shards.length = m.Cuts.length
  ns : m.Shards.length ≤ 1000
  nd : (m.Degrees.length : Int) = m.N
  cut : ∀ i, i < m.Shards.length → 0 ≤ m.Cuts.getD i 0 ∧ m.Cuts.getD i 0 ≤ 16777216
  sh : ∀ i, i < m.Shards.length → (0 ≤ (m.Shards.getD i iD).Size ∧ (m.Shards.getD i iD).Size ≤ 2147483647) ∧ 0 ≤ (m.Shards.getD i iD).Arcs ∧ (m.Shards.getD i iD).Arcs ≤ 2147483647
  deg : ∀ x ∈ m.Degrees, 0 ≤ x ∧ x < m.N
theorem may_ok {m : Man} (h : mayF m = true) : MayOk m := by
  unfold mayF at h
  simp only [Bool.and_eq_true, decide_eq_true_eq] at h
  obtain ⟨h0, h1, h2, h3, h4, h5⟩ := h
  obtain ⟨l1, l2, l3, l4, l5, l6⟩ := lay_ok h1
  refine ⟨h0, ⟨l2, l3⟩, h2, by omega, h3, fun i hi => ?_, fun i hi => ?_, fun x hx => ?_⟩
  · have := l6 (i + 1) (by omega)
    rw [lo_succ] at this
    omega
  · rw [List.all_eq_true] at h5
    have := h5 i (by simpa using hi)
    unfold shAt shOk cntOk at this
    simp only [Bool.and_eq_true, decide_eq_true_eq] at this
    exact ⟨this.1.1, this.1.2⟩
  · unfold degOk at h4
    rw [List.all_eq_true] at h4
    simpa using h4 x hx
end Go.Proofs.YtgbladpoglhleaaGreatDoor
