/- What the document's Decode has read behind i payloads, if these are a manifest's (pure). No condition. -/
import Derived.Test.YtgbladpoglhleaaGreatDoorDm
namespace Go.Proofs.YtgbladpoglhleaaGreatDoor
open Go.RowKit
theorem enc_head {m : Man} (h : mayF m = true) : numAt (headM m) 0 = m.Gen ∧ numAt (headM m) 4 = m.N ∧ numAt (headM m) 8 = (m.Shards.length : Int) := by
  have hm := may_ok h
  have hg := hm.gen
  have hn := hm.n
  have hs := hm.ns
  have e : ∀ (x : Int) (r : List UInt8) (k : Nat), numAt (be4 x ++ r) (4 + k) = numAt r k := fun x r k => by
    have := numAt_right (be4 x) r k
    rwa [be4_length] at this
  have hd : headM m = be4 m.Gen ++ (be4 m.N ++ (be4 (m.Shards.length : Int) ++ [])) := by unfold headM; rw [fours3]
  refine ⟨?_, ?_, ?_⟩
  · rw [hd, numAt_left _ _ _ (by rw [be4_length]; omega), numAt_be4 (by omega) (by omega)]
  · rw [hd, show (4 : Nat) = 4 + 0 by omega, e, numAt_left _ _ _ (by rw [be4_length]; omega), numAt_be4 (by omega) (by omega)]
  · rw [hd, show (8 : Nat) = 4 + (4 + 0) by omega, e, e, numAt_left _ _ _ (by rw [be4_length]; omega), numAt_be4 (by omega) (by omega)]
def RefIn (head : List UInt8) (data : List (List UInt8)) (i : Nat) (cs : List Int) (ss : List Info) (ds : List Int) : Prop :=
  ∀ m, mayF m = true → headM m = head → dataM m = data → cs = m.Cuts.take (50 * i) ∧ ss = m.Shards.take (50 * i) ∧ ds = m.Degrees.take (200 * (i - (m.Shards.length + 49) / 50))
theorem refin_zero (head : List UInt8) (data : List (List UInt8)) : RefIn head data 0 [] [] [] := fun m _ _ _ => by simp
theorem data_row {m : Man} {i : Nat} (hi : i < (m.Shards.length + 49) / 50) (h : i < (dataM m).length) : (dataM m)[i] = rowS m i := by
  have hl : i < (dataS m).length := by unfold dataS; simp; omega
  have e : (dataM m)[i]? = some (rowS m i) := by
    unfold dataM
    rw [List.getElem?_append_left hl]
    unfold dataS
    rw [List.getElem?_map, List.getElem?_range (by omega)]
    rfl
  rw [List.getElem?_eq_getElem h] at e
  exact Option.some.inj e
theorem data_deg {m : Man} {i : Nat} (hi : (m.Shards.length + 49) / 50 ≤ i) (h : i < (dataM m).length) : (dataM m)[i] = rowD (chD m.Degrees (i - (m.Shards.length + 49) / 50)) ∧ i - (m.Shards.length + 49) / 50 < cnt m.Degrees.length := by
  have hl : (dataS m).length = (m.Shards.length + 49) / 50 := by unfold dataS; simp
  have hl2 : (dataM m).length = (m.Shards.length + 49) / 50 + cnt m.Degrees.length := by unfold dataM dataD; rw [List.length_append, hl]; simp
  have hc : i - (m.Shards.length + 49) / 50 < cnt m.Degrees.length := by omega
  refine ⟨?_, hc⟩
  have e : (dataM m)[i]? = some (rowD (chD m.Degrees (i - (m.Shards.length + 49) / 50))) := by
    unfold dataM
    rw [List.getElem?_append_right (by omega), hl]
    unfold dataD
    rw [List.getElem?_map, List.getElem?_range hc]
    rfl
  rw [List.getElem?_eq_getElem h] at e
  exact Option.some.inj e
theorem refin_S {head : List UInt8} {data : List (List UInt8)} {i : Nat} {cs : List Int} {ss : List Info} {ds : List Int} (hi : i < data.length) (h : RefIn head data i cs ss ds) (hlt : (cs.length : Int) < numAt head 8) :
    RefIn head data (i + 1) (cs ++ cutsOf data[i] (data[i].length / 16)) (ss ++ infosOf data[i] (data[i].length / 16)) ds := by
  intro m hm e1 e2
  subst e1 e2
  have hk := may_ok hm
  have hn := hk.nc
  obtain ⟨rfl, rfl, rfl⟩ := h m hm rfl rfl
  rw [(enc_head hm).2.2, List.length_take] at hlt
  have h50 : 50 * i < m.Shards.length := by omega
  have hi2 : i < (m.Shards.length + 49) / 50 := by omega
  rw [data_row hi2 hi]
  have hl : (rowS m i).length / 16 = min (50 * (i + 1)) m.Shards.length - 50 * i := by unfold rowS; rw [segS_len]; omega
  have hrow : rowS m i = segS m (50 * i) (min (50 * (i + 1)) m.Shards.length) := rfl
  rw [hl, hrow, cutsOf_seg hk (by omega), infosOf_seg hk (by omega)]
  have t : ∀ {α : Type} (l : List α), l.length = m.Shards.length → l.take (50 * i) ++ (l.drop (50 * i)).take (min (50 * (i + 1)) m.Shards.length - 50 * i) = l.take (50 * (i + 1)) := fun l hl => by
    rcases Nat.le_total (50 * (i + 1)) m.Shards.length with h1 | h1
    · rw [Nat.min_eq_left h1, show 50 * (i + 1) - 50 * i = 50 by omega, show 50 * (i + 1) = 50 * i + 50 by omega, List.take_add]
    · rw [Nat.min_eq_right h1, List.take_of_length_le (l := l.drop (50 * i)) (by rw [List.length_drop]; omega), List.take_append_drop, List.take_of_length_le (by omega)]
  refine ⟨t _ (by omega), t _ rfl, ?_⟩
  rw [show i + 1 - (m.Shards.length + 49) / 50 = 0 by omega, show i - (m.Shards.length + 49) / 50 = 0 by omega]
theorem refin_D {head : List UInt8} {data : List (List UInt8)} {i : Nat} {cs : List Int} {ss : List Info} {ds acc : List Int} (hi : i < data.length) (h : RefIn head data i cs ss ds) (hge : ¬ (cs.length : Int) < numAt head 8)
    (hx : ∀ l, degFrame data[i] = some l → ((ds ++ l).length : Int) ≤ numAt head 4 → acc = l) : RefIn head data (i + 1) cs ss (ds ++ acc) := by
  intro m hm e1 e2
  subst e1 e2
  have hk := may_ok hm
  have hn := hk.nc
  obtain ⟨rfl, rfl, rfl⟩ := h m hm rfl rfl
  rw [(enc_head hm).2.2, List.length_take] at hge
  have h50 : m.Shards.length ≤ 50 * i := by omega
  obtain ⟨hrow, hc⟩ := data_deg (m := m) (i := i) (by omega) hi
  have hdf : degFrame (dataM m)[i] = some (chD m.Degrees (i - (m.Shards.length + 49) / 50)) := by
    rw [hrow]
    exact degFrame_row _ fun d hd => by
      have := hk.deg d (List.mem_of_mem_drop (List.mem_of_mem_take hd))
      have := hk.n
      omega
  have htk : m.Degrees.take (200 * (i - (m.Shards.length + 49) / 50)) ++ chD m.Degrees (i - (m.Shards.length + 49) / 50) = m.Degrees.take (200 * (i + 1 - (m.Shards.length + 49) / 50)) := by
    unfold chD
    rw [show 200 * (i + 1 - (m.Shards.length + 49) / 50) = 200 * (i - (m.Shards.length + 49) / 50) + 200 by omega, List.take_add]
  have hac := hx _ hdf (by
    rw [htk, (enc_head hm).2.1, List.length_take]
    have := hk.nd
    omega)
  subst hac
  refine ⟨?_, ?_, htk⟩
  · rw [List.take_of_length_le (by omega), List.take_of_length_le (by omega)]
  · rw [List.take_of_length_le (by omega), List.take_of_length_le (by omega)]
theorem refin_all {head : List UInt8} {data : List (List UInt8)} {cs : List Int} {ss : List Info} {ds : List Int} (h : RefIn head data data.length cs ss ds) {m : Man} (hm : mayF m = true) (e1 : headM m = head) (e2 : dataM m = data) :
    m = ⟨numAt head 0, numAt head 4, cs, ss, ds⟩ := by
  obtain ⟨h1, h2, h3⟩ := h m hm e1 e2
  subst e1 e2
  have hk := may_ok hm
  have hn := hk.nc
  have hl : (dataM m).length = (m.Shards.length + 49) / 50 + cnt m.Degrees.length := by unfold dataM dataS dataD; simp
  have hc : m.Degrees.length ≤ 200 * cnt m.Degrees.length := by unfold cnt; omega
  obtain ⟨g1, g2, -⟩ := enc_head hm
  rw [g1, g2, h1, h2, h3, List.take_of_length_le (by omega), List.take_of_length_le (by omega), List.take_of_length_le (by omega)]
end Go.Proofs.YtgbladpoglhleaaGreatDoor
