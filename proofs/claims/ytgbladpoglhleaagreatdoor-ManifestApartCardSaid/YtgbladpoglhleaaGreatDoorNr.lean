/- The document's Owned. No condition. -/
import Derived.Test.YtgbladpoglhleaaGreatDoorNq
namespace Go.Proofs.YtgbladpoglhleaaGreatDoor
open Go.RowKit Go.Lib
theorem ownsRow_step {w w1 : World} {B : Nat} {e : TypeId} {sz n : Nat} {v : Value} {xs : List Value} (h : w.ownsRow B e sz v n xs) (hb : Below w.heap.size w w1) : w1.ownsRow B e sz v n xs := by
  refine ⟨h.1, ?_⟩
  rcases h.2 with hn | ⟨g, cap, cur, rfl, h1, h2, h3⟩
  · exact .inl hn
  · exact .inr ⟨g, cap, cur, rfl, h1, (hb.block g (blk_lt h2)).trans h2, h3⟩
def ownF (names : List (List UInt8)) (gen shards : Int) : List (List UInt8) := names.filter fun l => ownedF names l gen shards
def StrsPost (w : World) (xs : List (List UInt8)) (e : Ending) (w' : World) : Prop := ∃ v, e = .returned v ∧ w'.ownsRow w.heap.size 9 1 v xs.length (strs xs) ∧ Below w.heap.size w w'
set_option maxHeartbeats 4000000 in
set_option maxRecDepth 100000 in
theorem refOwned_any {w : World} {ok : Nat → Prop} {v : Value} {names : List (List UInt8)} (gen shards : Int) (hn : Sl kstr w ok v names) (hl : names.length ≤ 2000) (hb : ∀ x ∈ names, x.length ≤ 4096) :
    Calls Tryz.prog 17 #[v, .int .i64 gen, .int .i64 shards] w (StrsPost w (ownF names gen shards)) := by
  obtain ⟨A, c, rfl, hc, hm⟩ := hn.slice
  have HS := Aside.mk hn
  have HBn := Aside.mk hb
  have HR0 := Aside.mk (World.ownsRow_nil w w.heap.size 9 1)
  have HB0 := Aside.mk (Below.refl w.heap.size w)
  clear hn hb
  go_enter Tryz.func17, Tryz.ntmps17
  go_wp2
  go_loopg [7, 8] names.length (fun kq v3 v4 wr => ∃ (i : Nat), Aside (i + kq = names.length) ∧ v4 = .int .i64 i ∧ Aside (Below w.heap.size w wr) ∧ Aside (wr.ownsRow w.heap.size 9 1 v3 ((names.take i).filter fun l => ownedF names l gen shards).length (strs ((names.take i).filter fun l => ownedF names l gen shards))))
  case atStart => exact ⟨0, ⟨by omega⟩, rfl, HB0, HR0⟩
  case round =>
    clear HR0 HB0
    obtain ⟨i, HI, rfl, HB, HR⟩ := hrel
    by_cases hi : i < names.length
    · obtain ⟨b, o, e, k0⟩ := (HS.out.below HB.out).str i hi
      cases e
      have HT := Aside.mk (take_snoc' hi)
      have HM : Aside (names.length - (i + 1) < gk ∧ i + 1 + (names.length - (i + 1)) = names.length) := ⟨by have := HI.out; omega⟩
      have hlen : Aside (((names.take i).filter fun l => ownedF names l gen shards).length ≤ 2000) := ⟨Nat.le_trans (List.length_filter_le _ _) (by rw [List.length_take]; omega)⟩
      have hx4 := HBn.out _ (List.getElem_mem hi)
      have hcall := refOwned1_any (w := wr) ⟨names[i].toArray⟩ gen shards (by simpa [ByteArray.size] using hx4) (HS.out.below HB.out)
      rw [show (⟨names[i].toArray⟩ : ByteArray).data.toList = names[i] by simp] at hcall
      obtain ⟨st, hst⟩ : ∃ st, st = ownedF names names[i] gen shards := ⟨_, rfl⟩
      rw [← hst] at hcall
      have HST := Aside.mk hst
      clear hst hx4
      generalize names[i] = x at *
      obtain ⟨w1, hw1⟩ : ∃ w1, w1 = wr := ⟨_, rfl⟩
      subst hw1
      go_wp2_with fail
      refine hcall.mono ?_
      clear hcall
      rintro e w3 ⟨rfl, B3⟩
      have HB3 := Aside.mk (bthen HB.out HB.out.size B3)
      have HR3 := Aside.mk (ownsRow_step HR.out B3)
      have k3 := bcell B3 k0
      clear B3 k0 HB HR
      cases st with
      | false =>
        have hf : (names.take (i + 1)).filter (fun l => ownedF names l gen shards) = (names.take i).filter (fun l => ownedF names l gen shards) := by
          rw [HT.out, List.filter_append]
          simp [HST.out.symm]
        have HR4 := Aside.mk HR3.out
        rw [← hf] at HR4
        clear hf HR3
        go_wp2
        go_roundg (names.length - (i + 1))
        case measure => exact HM.out.1
        case rel => exact ⟨i + 1, ⟨HM.out.2⟩, by go_num, HB3, HR4⟩
      | true =>
        have hf : (names.take (i + 1)).filter (fun l => ownedF names l gen shards) = (names.take i).filter (fun l => ownedF names l gen shards) ++ [x] := by
          rw [HT.out, List.filter_append]
          simp [HST.out.symm]
        have HFe := Aside.mk hf
        clear hf
        generalize (names.take i).filter (fun l => ownedF names l gen shards) = P at *
        go_wp2_with (at_builtin; go_must (refine app_one w.heap.size rfl _ _ 22 9 (.string ByteArray.empty) 1 16 rfl Tryz.underlying22 Tryz.infoStr rfl (by decide) (by decide) u7 P.length _ [.string ⟨x.toArray⟩] rfl rfl rfl (by simp [Value.oneCell']) HR3.out HB3.out.size (by have := hlen.out; omega) ?_; intro v1 w6 hown hg6 hat; have HB6 := Aside.mk (HB3.out.grown hg6 HB3.out.size fun q e => (HR3.out.lt q e).1); have HO6 := Aside.mk hown; clear hown hg6 hat))
        go_roundg (names.length - (i + 1))
        case measure => exact HM.out.1
        case rel => exact ⟨i + 1, ⟨HM.out.2⟩, by go_num, HB6, ⟨by rw [HFe.out, strs_snoc, List.length_append]; exact HO6.out⟩⟩
    · have ht : names.take i = names := List.take_of_length_le (by omega)
      have HP : Aside (StrsPost w (ownF names gen shards) (.returned u7) wr) := ⟨_, rfl, by rw [ht] at HR; exact HR.out, HB.out⟩
      replace hi : names.length ≤ i := by omega
      clear ht HR HB
      go_wp2
      go_ret
      exact HP.out
end Go.Proofs.YtgbladpoglhleaaGreatDoor
