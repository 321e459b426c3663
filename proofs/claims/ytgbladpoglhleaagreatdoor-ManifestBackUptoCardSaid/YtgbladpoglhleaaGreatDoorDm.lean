/- What manifest.Decode answers (pure): a manifest if, and only if, these are its payloads. No condition. -/
import Derived.Test.YtgbladpoglhleaaGreatDoorDs
import Derived.Test.YtgbladpoglhleaaGreatDoorMu
namespace Go.Proofs.YtgbladpoglhleaaGreatDoor
open Go.RowKit
theorem chunks_flat (ds : List Int) : ∀ k, ((List.range k).map fun j => chD ds j).flatten = ds.take (200 * k)
  | 0 => by simp
  | k + 1 => by
    rw [List.range_succ, List.map_append, List.flatten_append, chunks_flat ds k]
    simp only [List.map_cons, List.map_nil, List.flatten_cons, List.flatten_nil, List.append_nil]
    unfold chD
    rw [show 200 * (k + 1) = 200 * k + 200 by omega, List.take_add]
theorem degF_data (ds : List Int) (h : ∀ d ∈ ds, 0 ≤ d ∧ d < 9223372036854775808) : degF (dataD ds) = some ds := by
  have e : dataD ds = ((List.range (cnt ds.length)).map fun j => chD ds j).map rowD := by unfold dataD; rw [List.map_map]; rfl
  rw [e, degF_rows _ fun c hc d hd => by
    obtain ⟨j, _, rfl⟩ := List.mem_map.1 hc
    exact h d (List.mem_of_mem_drop (List.mem_of_mem_take hd)), chunks_flat, List.take_of_length_le (by unfold cnt; omega)]
def collect (head : List UInt8) (data : List (List UInt8)) : Option Man :=
  if head.length = 12 ∧ numAt head 8 ≤ 1000 then
    (shF (numAt head 8).toNat data).bind fun q => (degF q.2.2).map fun ds => { Gen := numAt head 0, N := numAt head 4, Cuts := q.1, Shards := q.2.1, Degrees := ds }
  else none
/-- What has been written is collected. -/
theorem collect_enc {m : Man} (h : mayF m = true) : collect (headM m) (dataM m) = some m := by
  have hm := may_ok h
  have hg := hm.gen
  have hn := hm.n
  have hs := hm.ns
  have e : ∀ (x : Int) (r : List UInt8) (k : Nat), numAt (be4 x ++ r) (4 + k) = numAt r k := fun x r k => by
    have := numAt_right (be4 x) r k
    rwa [be4_length] at this
  have hd : headM m = be4 m.Gen ++ (be4 m.N ++ (be4 (m.Shards.length : Int) ++ [])) := by unfold headM; rw [fours3]
  have n0 : numAt (headM m) 0 = m.Gen := by rw [hd, numAt_left _ _ _ (by rw [be4_length]; omega), numAt_be4 (by omega) (by omega)]
  have n1 : numAt (headM m) 4 = m.N := by rw [hd, show (4 : Nat) = 4 + 0 by omega, e, numAt_left _ _ _ (by rw [be4_length]; omega), numAt_be4 (by omega) (by omega)]
  have n2 : numAt (headM m) 8 = (m.Shards.length : Int) := by rw [hd, show (8 : Nat) = 4 + (4 + 0) by omega, e, e, numAt_left _ _ _ (by rw [be4_length]; omega), numAt_be4 (by omega) (by omega)]
  have hl : (headM m).length = 12 := by unfold headM; rw [fours_length]; rfl
  have hsh := shF_rows hm (dataD m.Degrees) _ 0 rfl (Nat.zero_le _)
  simp only [Nat.mul_zero, Nat.sub_zero, List.drop_zero] at hsh
  unfold collect
  rw [if_pos ⟨hl, by rw [n2]; omega⟩, n0, n1, n2, Int.toNat_natCast, show dataM m = dataS m ++ dataD m.Degrees from rfl, hsh]
  simp only [Option.bind_some]
  rw [degF_data m.Degrees fun d hd => by have := hm.deg d hd; omega]
  rfl
/-- Decode's answer. -/
def decM (head : List UInt8) (data : List (List UInt8)) : Option Man := (collect head data).bind fun m => if mayF m = true ∧ headM m = head ∧ dataM m = data then some m else none
theorem decM_iff {head : List UInt8} {data : List (List UInt8)} {m : Man} : decM head data = some m ↔ mayF m = true ∧ headM m = head ∧ dataM m = data := by
  constructor
  · intro h
    unfold decM at h
    cases hc : collect head data with
    | none => rw [hc] at h; cases h
    | some m' =>
      rw [hc] at h
      simp only [Option.bind_some] at h
      split at h
      · cases h; assumption
      · cases h
  · rintro ⟨h, rfl, rfl⟩
    unfold decM
    rw [collect_enc h]
    simp [h]
theorem enc_inj {m m' : Man} (h : mayF m = true) (h' : mayF m' = true) (e1 : headM m = headM m') (e2 : dataM m = dataM m') : m = m' := by
  have a := collect_enc h
  rw [e1, e2, collect_enc h'] at a
  exact (Option.some.inj a).symm
end Go.Proofs.YtgbladpoglhleaaGreatDoor
