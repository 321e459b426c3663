/- Manifests in memory; the references' copies and comparisons of lists of numbers and of shards' records. No condition. -/
import Derived.Test.YtgbladpoglhleaaGreatDoorB
namespace Go.Proofs.YtgbladpoglhleaaGreatDoor
open Go.RowKit
structure Info where
  Size : Int
  Sum : UInt32
  Arcs : Int
  deriving DecidableEq
def infoRow (x : Info) : List Value := [.int .i64 x.Size, .int .u32 x.Sum.toNat, .int .i64 x.Arcs]
def kinfo : Kind Info := flat 3 infoRow (fun _ => rfl) (by simp [Value.oneCell', infoRow])
structure Man where
  Gen : Int
  N : Int
  Cuts : List Int
  Shards : List Info
  Degrees : List Int
  deriving DecidableEq
/-- The value v reads as the manifest m. -/
def ManV (w : World) (ok : Nat → Prop) (v : Value) (m : Man) : Prop :=
  ∃ a b c, v = .agg #[.int .i64 m.Gen, .int .i64 m.N, a, b, c] ∧ Sl kint w ok a m.Cuts ∧ Sl kinfo w ok b m.Shards ∧ Sl kint w ok c m.Degrees
theorem ManV.below {w w' : World} {ok : Nat → Prop} {v : Value} {m : Man} (h : ManV w ok v m) (hb : Below w.heap.size w w') : ManV w' ok v m :=
  let ⟨a, b, c, e, h1, h2, h3⟩ := h; ⟨a, b, c, e, h1.below hb, h2.below hb, h3.below hb⟩
theorem Sl.info {w : World} {ok : Nat → Prop} {A : Option Addr} {n c : Nat} {xs : List Info} (h : Sl kinfo w ok (.slice A n c) xs) (i : Nat) (hi : i < xs.length) : ∃ b o, A = some ⟨b, o, none⟩ ∧
    w.cell? ⟨b, o + i * 3, none⟩ = some (.int .i64 xs[i].Size) ∧ w.cell? ⟨b, o + i * 3 + 1, none⟩ = some (.int .u32 xs[i].Sum.toNat) ∧
    w.cell? ⟨b, o + i * 3 + 2, none⟩ = some (.int .i64 xs[i].Arcs) := by
  obtain ⟨b, o, cs, e, _, _, rfl, q⟩ := h.at i hi
  exact ⟨b, o, e, by simpa [kinfo, flat] using q 0 _ rfl, q 1 _ rfl, q 2 _ rfl⟩
theorem Tryz.infoInt : (Tryz.prog.info? 3).map (fun i => (i.zero, i.size, i.bytes)) = some (some (.int .i64 0), 1, 8) := by kernel_rfl
theorem Tryz.infoInfo : (Tryz.prog.info? 54).map (fun i => (i.zero, i.size, i.bytes)) = some (some (.agg #[.int .i64 0, .int .u32 0, .int .i64 0]), 3, 24) := by kernel_rfl
def ints (xs : List Int) : List Value := xs.map (Value.int .i64)
theorem ints_length (xs : List Int) : (ints xs).length = xs.length := by simp [ints]
theorem ints_snoc (xs : List Int) (x : Int) : ints (xs ++ [x]) = ints xs ++ [.int .i64 x] := by simp [ints]
def infoCells (xs : List Info) : List Value := xs.flatMap infoRow
theorem infoCells_snoc (xs : List Info) (x : Info) : infoCells (xs ++ [x]) = infoCells xs ++ [.int .i64 x.Size, .int .u32 x.Sum.toNat, .int .i64 x.Arcs] := by simp [infoCells, infoRow]
theorem infoCells_length (xs : List Info) : (infoCells xs).length = xs.length * 3 := by
  induction xs with
  | nil => rfl
  | cons x xs ih => simp [infoCells, infoRow] at ih ⊢; omega
theorem infoCells_at {xs : List Info} {i : Nat} (hi : i < xs.length) : ((infoCells xs).drop (i * 3)).take 3 = infoRow xs[i] := by
  induction xs generalizing i with
  | nil => simp at hi
  | cons x xs ih =>
    cases i with
    | zero => simp [infoCells, infoRow]
    | succ i =>
      have e : (infoCells (x :: xs)).drop ((i + 1) * 3) = (infoCells xs).drop (i * 3) := by
        rw [show (i + 1) * 3 = 3 + i * 3 by omega, ← List.drop_drop]
        simp [infoCells, infoRow]
      rw [e, ih (by simpa using hi)]
      simp
theorem take_snoc {α : Type} {xs : List α} {i : Nat} (hi : i < xs.length) : xs.take (i + 1) = xs.take i ++ [xs[i]] := by
  rw [List.take_add_one, List.getElem?_eq_getElem hi]
  rfl
theorem eq_of_getElem {α : Type} {xs ys : List α} (hl : xs.length = ys.length) (h : ∀ j, (hj : j < xs.length) → xs[j] = ys[j]) : xs = ys :=
  List.ext_getElem hl fun j h1 _ => h j h1
theorem own_ints {w : World} {B : Nat} {v : Value} {xs : List Int} (h : w.ownsRow B 3 1 v xs.length (ints xs)) : Own kint 3 w B v xs := by
  refine ⟨ints xs, h, fun i x hx => ?_⟩
  show ((ints xs).drop (i * 1)).take 1 = [.int .i64 x]
  refine List.ext_getElem? fun j => ?_
  rw [List.getElem?_take]
  rcases j with _ | j
  · simp [ints, hx]
  · simp
theorem own_infos {w : World} {B : Nat} {v : Value} {xs : List Info} (h : w.ownsRow B 54 3 v xs.length (infoCells xs)) : Own kinfo 54 w B v xs := by
  refine ⟨infoCells xs, h, fun i x hx => ?_⟩
  obtain ⟨hi, rfl⟩ := List.getElem?_eq_some_iff.1 hx
  exact infoCells_at hi
def IntsPost (w : World) (xs : List Int) (e : Ending) (w' : World) : Prop := ∃ v, e = .returned v ∧ w'.ownsRow w.heap.size 3 1 v xs.length (ints xs) ∧ Below w.heap.size w w'
def InfosPost (w : World) (xs : List Info) (e : Ending) (w' : World) : Prop := ∃ v, e = .returned v ∧ w'.ownsRow w.heap.size 54 3 v xs.length (infoCells xs) ∧ Below w.heap.size w w'
set_option maxHeartbeats 1000000 in
set_option maxRecDepth 100000 in
theorem Ints_any {w : World} {ok : Nat → Prop} {v : Value} {cs : List Int} (hs : Sl kint w ok v cs) (hl : cs.length ≤ 16777216) : Calls Tryz.prog 47 #[v] w (IntsPost w cs) := by
  obtain ⟨A, c, rfl, hc, hm⟩ := hs.slice
  have HS := Aside.mk hs
  obtain ⟨i0, hi0, hz0, hz1, hz2⟩ := info_parts Tryz.infoInt
  have hmk := run_make (P := Tryz.prog) w 30 3 i0 _ Tryz.underlying30 hi0 hz0 .i64 .i64 0 cs.length (by omega) (by omega) (by rw [hz2]; omega) (by omega)
  rw [hz1, Int.toNat_natCast] at hmk
  have HR0 : Aside ((w.alloc (.cells (madeCells #[.int .i64 0] cs.length) 3)).ownsRow w.heap.size 3 1 (.slice (some ⟨w.heap.size, 0, none⟩) 0 cs.length) 0 []) := ⟨World.ownsRow_made w _ cs.length (Nat.le_refl _) (by simp only [maxLen]; omega) (by rw [size_madeCells]; omega)⟩
  have HB0 : Aside (Below w.heap.size w (w.alloc (.cells (madeCells #[.int .i64 0] cs.length) 3))) := ⟨(Below.refl _ w).alloc (Nat.le_refl _) _⟩
  clear hs hi0 hz0 hz1 hz2
  go_enter Tryz.func47, Tryz.ntmps47
  go_wp2
  clear hmk
  generalize w.alloc (.cells (madeCells #[.int .i64 0] cs.length) 3) = w0 at *
  go_loopg [3, 4] cs.length (fun kq v3 iv wr => ∃ (i : Nat), Aside (i + kq = cs.length) ∧ iv = .int .i64 i ∧ Aside (Below w.heap.size w wr) ∧ Aside (wr.ownsRow w.heap.size 3 1 v3 (cs.take i).length (ints (cs.take i))))
  case atStart => exact ⟨0, ⟨by omega⟩, rfl, HB0, HR0⟩
  case round =>
    clear HR0 HB0
    obtain ⟨i, HI, rfl, HB, HR⟩ := hrel
    by_cases hi : i < cs.length
    · obtain ⟨b, o, e, k0⟩ := (HS.out.below HB.out).int i hi
      cases e
      have HT := Aside.mk (take_snoc hi)
      have hlen : (cs.take i).length ≤ 16777216 := by simp; omega
      generalize cs[i] = x at *
      go_wp2_with (at_builtin; go_must (refine app_one w.heap.size rfl _ _ 30 3 (.int .i64 0) 1 8 rfl Tryz.underlying30 Tryz.infoInt rfl (by decide) (by decide) u3 (cs.take i).length _ [.int .i64 x] rfl rfl rfl (by simp [Value.oneCell']) HR.out HB.out.size (by omega) ?_; intro v1 w6 hown hg6 hat; have HB6 := Aside.mk (HB.out.grown hg6 HB.out.size fun q e => (HR.out.lt q e).1); have HO6 := Aside.mk hown; clear hown hg6 hat))
      go_roundg (cs.length - (i + 1))
      case measure => have := HI.out; omega
      case rel => exact ⟨i + 1, ⟨by omega⟩, by go_num, HB6, ⟨by rw [HT.out, ints_snoc, List.length_append]; exact HO6.out⟩⟩
    · have ht : cs.take i = cs := List.take_of_length_le (by omega)
      have HP : Aside (IntsPost w cs (.returned u3) wr) := ⟨_, rfl, by rw [← ht]; exact HR.out, HB.out⟩
      replace hi : cs.length ≤ i := by omega
      clear ht HR HB
      go_wp2
      go_ret
      exact HP.out
set_option maxHeartbeats 1000000 in
set_option maxRecDepth 100000 in
theorem Infos_any {w : World} {ok : Nat → Prop} {v : Value} {cs : List Info} (hs : Sl kinfo w ok v cs) (hl : cs.length ≤ 16777216) : Calls Tryz.prog 48 #[v] w (InfosPost w cs) := by
  obtain ⟨A, c, rfl, hc, hm⟩ := hs.slice
  have HS := Aside.mk hs
  obtain ⟨i0, hi0, hz0, hz1, hz2⟩ := info_parts Tryz.infoInfo
  have hmk := run_make (P := Tryz.prog) w 31 54 i0 _ Tryz.underlying31 hi0 hz0 .i64 .i64 0 cs.length (by omega) (by omega) (by rw [hz2]; omega) (by omega)
  rw [hz1, Int.toNat_natCast] at hmk
  have HR0 := Aside.mk (World.ownsRow_made (base := w.heap.size) (e := 54) (size := 3) w (madeCells #[.int .i64 0, .int .u32 0, .int .i64 0] (cs.length * 3)) cs.length (Nat.le_refl _) (by simp only [maxLen]; omega) (size_madeCells _ _))
  have HB0 := Aside.mk ((Below.refl _ w).alloc (Nat.le_refl _) (.cells (madeCells #[.int .i64 0, .int .u32 0, .int .i64 0] (cs.length * 3)) 54))
  clear hs hi0 hz0 hz1 hz2
  go_enter Tryz.func48, Tryz.ntmps48
  go_wp2
  clear hmk
  generalize w.alloc (.cells (madeCells #[.int .i64 0, .int .u32 0, .int .i64 0] (cs.length * 3)) 54) = w0 at *
  go_loopg [3, 4] cs.length (fun kq v3 iv wr => ∃ (i : Nat), Aside (i + kq = cs.length) ∧ iv = .int .i64 i ∧ Aside (Below w.heap.size w wr) ∧ Aside (wr.ownsRow w.heap.size 54 3 v3 (cs.take i).length (infoCells (cs.take i))))
  case atStart => exact ⟨0, ⟨by omega⟩, rfl, HB0, HR0⟩
  case round =>
    clear HR0 HB0
    obtain ⟨i, HI, rfl, HB, HR⟩ := hrel
    by_cases hi : i < cs.length
    · obtain ⟨b, o, e, k0, k1, k2⟩ := (HS.out.below HB.out).info i hi
      cases e
      have HT := Aside.mk (take_snoc hi)
      have hlen : (cs.take i).length ≤ 16777216 := by simp; omega
      generalize cs[i] = x at *
      go_wp2_with (at_builtin; go_must (refine app_one w.heap.size rfl _ _ 31 54 _ 3 24 rfl Tryz.underlying31 Tryz.infoInfo rfl (by decide) (by decide) u3 (cs.take i).length _ [.int .i64 x.Size, .int .u32 x.Sum.toNat, .int .i64 x.Arcs] rfl rfl rfl (by simp [Value.oneCell']) HR.out HB.out.size (by omega) ?_; intro v1 w6 hown hg6 hat; have HB6 := Aside.mk (HB.out.grown hg6 HB.out.size fun q e => (HR.out.lt q e).1); have HO6 := Aside.mk hown; clear hown hg6 hat k0 k1 k2))
      go_roundg (cs.length - (i + 1))
      case measure => have := HI.out; omega
      case rel => exact ⟨i + 1, ⟨by omega⟩, by go_num, HB6, ⟨by rw [HT.out, infoCells_snoc, List.length_append]; exact HO6.out⟩⟩
    · have ht : cs.take i = cs := List.take_of_length_le (by omega)
      have HP : Aside (InfosPost w cs (.returned u3) wr) := ⟨_, rfl, by rw [← ht]; exact HR.out, HB.out⟩
      replace hi : cs.length ≤ i := by omega
      clear ht HR HB
      go_wp2
      go_ret
      exact HP.out
end Go.Proofs.YtgbladpoglhleaaGreatDoor
