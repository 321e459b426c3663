/- The parts of a name, by the document's code. No condition. -/
import Derived.Test.YtgbladpoglhleaaGreatDoorNa
namespace Go.Proofs.YtgbladpoglhleaaGreatDoor
open Go.RowKit Go.Lib
/-- A text as a value. -/
def strV (l : List UInt8) : Value := .string ⟨l.toArray⟩
theorem strV_of (s : ByteArray) : strV s.data.toList = .string s := by simp [strV]
/-- What stands between the points. -/
def split46 : List UInt8 → List (List UInt8)
  | [] => [[]]
  | c :: cs => if c = 46 then [] :: split46 cs else match split46 cs with
    | [] => [[c]]
    | p :: ps => (c :: p) :: ps
theorem split46_ne : ∀ l, split46 l ≠ []
  | [] => by simp [split46]
  | c :: cs => by
    rw [split46]
    split
    · simp
    · split <;> simp
/-- cur stands ahead of the first part. -/
def withHead (cur : List UInt8) : List (List UInt8) → List (List UInt8)
  | [] => [cur]
  | p :: ps => (cur ++ p) :: ps
theorem withHead_nil (l : List UInt8) : withHead [] (split46 l) = split46 l := by
  cases h : split46 l with
  | nil => exact absurd h (split46_ne l)
  | cons p ps => rfl
theorem withHead_step (cur : List UInt8) (c : UInt8) (cs : List UInt8) (hc : c ≠ 46) : withHead cur (split46 (c :: cs)) = withHead (cur ++ [c]) (split46 cs) := by
  rw [split46, if_neg hc]
  cases h : split46 cs with
  | nil => exact absurd h (split46_ne cs)
  | cons p ps => simp [withHead]
theorem withHead_point (cur : List UInt8) (cs : List UInt8) : withHead cur (split46 (46 :: cs)) = cur :: split46 cs := by
  rw [split46, if_pos rfl]
  simp [withHead]
def strs (l : List (List UInt8)) : List Value := l.map strV
theorem strs_snoc (l : List (List UInt8)) (x : List UInt8) : strs (l ++ [x]) = strs l ++ [strV x] := by simp [strs]
theorem extract_strV {s : ByteArray} {a b : Nat} : Value.string (s.extract a b) = strV ((s.data.toList.take b).drop a) := by
  unfold strV
  congr 1
  apply ByteArray.ext
  apply Array.ext'
  rw [ByteArray.data_extract, Array.toList_extract, List.extract_eq_take_drop, List.drop_take]
theorem Tryz.infoStr : (Tryz.prog.info? 9).map (fun i => (i.zero, i.size, i.bytes)) = some (some (.string ByteArray.empty), 1, 16) := by kernel_rfl
def PartsPost (w : World) (l : List UInt8) (e : Ending) (w' : World) : Prop := ∃ v, e = .returned v ∧ w'.ownsRow w.heap.size 9 1 v (split46 l).length (strs (split46 l)) ∧ Below w.heap.size w w'
set_option maxHeartbeats 2000000 in
set_option maxRecDepth 100000 in
theorem parts_any {w : World} (s : ByteArray) (hs : s.size ≤ 4096) : Calls Tryz.prog 41 #[.string s] w (PartsPost w s.data.toList) := by
  have hlen : s.data.toList.length = s.size := by simp
  have HL := Aside.mk hlen
  have HR0 := Aside.mk (World.ownsRow_nil w w.heap.size 9 1)
  have HB0 := Aside.mk (Below.refl w.heap.size w)
  clear hlen
  go_enter Tryz.func41, Tryz.ntmps41
  go_wp2
  go_loopg [3, 4, 5] (s.size + 1) (fun kq v3 v4 v5 wr => ∃ (i fr : Nat) (P : List (List UInt8)), Aside (i + kq = s.size + 1) ∧ v4 = .int .i64 fr ∧ v5 = .int .i64 i ∧ Aside (Below w.heap.size w wr) ∧ Aside (wr.ownsRow w.heap.size 9 1 v3 P.length (strs P)) ∧ Aside (P.length ≤ i ∧ fr ≤ i) ∧
    Aside ((i ≤ s.size → split46 s.data.toList = P ++ withHead ((s.data.toList.take i).drop fr) (split46 (s.data.toList.drop i))) ∧ (i = s.size + 1 → split46 s.data.toList = P)))
  case atStart => exact ⟨0, 0, [], ⟨by omega⟩, rfl, rfl, HB0, HR0, ⟨by simp⟩, ⟨fun _ => by simp [withHead_nil], fun h => by omega⟩⟩
  case round =>
    clear HR0 HB0
    obtain ⟨i, fr, P, HI, rfl, rfl, HB, HR, HP, HV⟩ := hrel
    have hfr := HP.out.2
    have HPl : Aside (P.length ≤ 16777216) := ⟨by have := HP.out.1; have := HI.out; omega⟩
    by_cases hi : i ≤ s.size
    · have hv := HV.out.1 hi
      have hcap : Aside ((i = s.size ∨ (∃ h : i < s.size, s[i] = 46)) → ∀ (wx : World) (v : Value), wx.ownsRow w.heap.size 9 1 v (P.length + 1) (strs P ++ [.string (s.extract fr i)]) →
          wx.ownsRow w.heap.size 9 1 v (P ++ [(s.data.toList.take i).drop fr]).length (strs (P ++ [(s.data.toList.take i).drop fr])) ∧ (P ++ [(s.data.toList.take i).drop fr]).length ≤ i + 1 ∧
          ((i + 1 ≤ s.size → split46 s.data.toList = (P ++ [(s.data.toList.take i).drop fr]) ++ withHead ((s.data.toList.take (i + 1)).drop (i + 1)) (split46 (s.data.toList.drop (i + 1)))) ∧ (i + 1 = s.size + 1 → split46 s.data.toList = P ++ [(s.data.toList.take i).drop fr]))) := ⟨fun hc wx v hown => by
        refine ⟨by rw [strs_snoc, ← extract_strV, List.length_append]; exact hown, by have := HP.out.1; simp; omega, fun h1 => ?_, fun h1 => ?_⟩
        · rcases hc with hc | ⟨hlt, hc⟩
          · omega
          · have hil : i < s.data.toList.length := by rw [HL.out]; exact hlt
            rw [hv, List.drop_eq_getElem_cons hil, byte_at hlt, hc, withHead_point]
            have : (s.data.toList.take (i + 1)).drop (i + 1) = [] := List.drop_eq_nil_of_le (by rw [List.length_take]; omega)
            rw [this, withHead_nil]
            simp
        · have : i = s.size := by omega
          subst this
          have e2 : s.data.toList.drop s.size = [] := List.drop_eq_nil_of_le (by rw [HL.out]; exact Nat.le_refl _)
          rw [hv, e2]
          simp [split46, withHead]⟩
      by_cases he : i = s.size
      · have HC := Aside.mk (hcap.out (.inl he))
        obtain ⟨e1, e2, e3, e4⟩ := natEq he
        have HE := Aside.mk he
        have hfs : fr ≤ s.size := by omega
        clear hv hcap he HV
        go_wp2_with (at_builtin; go_must (refine app_one w.heap.size rfl _ _ 22 9 (.string ByteArray.empty) 1 16 rfl Tryz.underlying22 Tryz.infoStr rfl (by decide) (by decide) u3 P.length _ [.string (s.extract fr i)] rfl rfl rfl (by simp [Value.oneCell']) HR.out HB.out.size (by have := HPl.out; omega) ?_; intro v1 w6 hown hg6 hat; have HB6 := Aside.mk (HB.out.grown hg6 HB.out.size fun q e => (HR.out.lt q e).1); obtain ⟨hO6, hP6, hV6⟩ := HC.out w6 v1 hown; have HO6 := Aside.mk hO6; have HP6 := Aside.mk hP6; have HV6 := Aside.mk hV6; clear hown hg6 hat hO6 hP6 hV6))
        go_roundg (s.size + 1 - (i + 1))
        case measure => have := HI.out; omega
        case rel => exact ⟨i + 1, i + 1, P ++ [(s.data.toList.take i).drop fr], ⟨by have := HI.out; omega⟩, by go_num, by go_num, HB6, HO6, ⟨HP6.out, Nat.le_refl _⟩, HV6⟩
      · have hlt : i < s.size := by omega
        have hil : i < s.data.toList.length := by rw [HL.out]; exact hlt
        have e1 : ((i : Int) == (s.size : Int)) = false := beq_false_of_ne (by omega)
        have e2 : (i == s.size) = false := beq_false_of_ne he
        have HX : Aside (s.data.toList[i] = s[i]) := ⟨byte_at hlt⟩
        by_cases h46 : s[i] = 46
        · have HC := Aside.mk (hcap.out (.inr ⟨hlt, h46⟩))
          have e3 : ((s[i].toNat : Int) == 46) = true := by rw [h46]; rfl
          have e4 : (s[i].toNat == 46) = true := by rw [h46]; rfl
          clear hv hcap he HV h46 HX
          go_wp2_with (at_builtin; go_must (refine app_one w.heap.size rfl _ _ 22 9 (.string ByteArray.empty) 1 16 rfl Tryz.underlying22 Tryz.infoStr rfl (by decide) (by decide) u3 P.length _ [.string (s.extract fr i)] rfl rfl rfl (by simp [Value.oneCell']) HR.out HB.out.size (by have := HPl.out; omega) ?_; intro v1 w6 hown hg6 hat; have HB6 := Aside.mk (HB.out.grown hg6 HB.out.size fun q e => (HR.out.lt q e).1); obtain ⟨hO6, hP6, hV6⟩ := HC.out w6 v1 hown; have HO6 := Aside.mk hO6; have HP6 := Aside.mk hP6; have HV6 := Aside.mk hV6; clear hown hg6 hat hO6 hP6 hV6))
          go_roundg (s.size + 1 - (i + 1))
          case measure => have := HI.out; omega
          case rel => exact ⟨i + 1, i + 1, P ++ [(s.data.toList.take i).drop fr], ⟨by have := HI.out; omega⟩, by go_num, by go_num, HB6, HO6, ⟨HP6.out, Nat.le_refl _⟩, HV6⟩
        · have h46n : s[i].toNat ≠ 46 := fun e => h46 (UInt8.toNat_inj.1 e)
          have e3 : ((s[i].toNat : Int) == 46) = false := beq_false_of_ne (by omega)
          have e4 : (s[i].toNat == 46) = false := beq_false_of_ne h46n
          have HV6 : Aside ((i + 1 ≤ s.size → split46 s.data.toList = P ++ withHead ((s.data.toList.take (i + 1)).drop fr) (split46 (s.data.toList.drop (i + 1)))) ∧ (i + 1 = s.size + 1 → split46 s.data.toList = P)) := ⟨fun _ => by
            rw [hv, List.drop_eq_getElem_cons hil, withHead_step _ _ _ (by rw [HX.out]; exact h46), take_snoc' hil, List.drop_append_of_le_length (by rw [List.length_take]; omega)], fun h => by omega⟩
          clear hv hcap he HV h46 HX h46n
          go_wp2
          go_roundg (s.size + 1 - (i + 1))
          case measure => have := HI.out; omega
          case rel => exact ⟨i + 1, fr, P, ⟨by have := HI.out; omega⟩, rfl, by go_num, HB, HR, ⟨by have := HP.out.1; omega, by omega⟩, HV6⟩
    · have hie : i = s.size + 1 := by have := HI.out; omega
      have hv := HV.out.2 hie
      have HF : Aside (PartsPost w s.data.toList (.returned u3) wr) := ⟨_, rfl, by rw [hv]; exact HR.out, HB.out⟩
      replace hi : s.size < i := by omega
      clear hv hie HV
      go_wp2
      go_ret
      exact HF.out
end Go.Proofs.YtgbladpoglhleaaGreatDoor
