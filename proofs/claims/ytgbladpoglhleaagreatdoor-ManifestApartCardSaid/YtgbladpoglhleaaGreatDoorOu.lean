/- The program's Ours and Owned of any texts: the document's. Condition: the tables of the text and the library's errors. -/
import Derived.Test.YtgbladpoglhleaaGreatDoorPs
namespace Go.Proofs.YtgbladpoglhleaaGreatDoor
open Go.RowKit Go.Lib
set_option maxHeartbeats 1000000 in
set_option maxRecDepth 100000 in
theorem ours_any {w : World} (T : NTabs w) (s : ByteArray) (hs : s.size ≤ 4096) : Calls Tryz.prog 10 #[.string s] w fun e w' => e = .returned (.bool (oursF s.data.toList)) ∧ Below w.heap.size w w' := by
  have hcall := parse_any T s hs
  have HO := Aside.mk (ours_shape s.data.toList)
  clear T
  go_enter Tryz.func10, Tryz.ntmps10
  go_wp2_with fail
  refine hcall.mono ?_
  clear hcall
  rintro e w1 ⟨B1, ⟨h0, x, v, rfl⟩ | ⟨ns, hn, h0, v, rfl, ho⟩⟩
  · have HB := Aside.mk B1
    have HP : Aside (hasPrefix s.data.toList (⟨#[116, 46]⟩ : ByteArray).data.toList = oursF s.data.toList) := ⟨by rw [← HO.out, h0]; rfl⟩
    clear B1 h0 HO
    go_wp2_with fail
    refine (Tryz.strings_HasPrefix s ⟨#[116, 46]⟩ w1).mono ?_
    rintro e w2 ⟨rfl, rfl⟩
    rw [HP.out]
    go_wp2
    go_ret
    exact ⟨rfl, HB.out⟩
  · have HB := Aside.mk B1
    have HP : Aside (oursF s.data.toList = true) := ⟨by rw [← HO.out, h0]; rfl⟩
    clear B1 h0 HO ho hn
    unfold strV
    go_wp2
    go_ret
    exact ⟨retb HP.out, HB.out⟩
theorem last_ok {l : List UInt8} (h : (split46 l).tail ≠ []) : ∃ k : Nat, lastIndexByte ⟨l.toArray⟩ 46 = (k : Int) ∧ k ≤ l.length := by
  have hsz : (⟨l.toArray⟩ : ByteArray).size = l.length := rfl
  rcases lastIndexByte_spec ⟨l.toArray⟩ 46 with ⟨_, h2⟩ | ⟨i, hi, e, _, _⟩
  · exfalso
    have hm : (46 : UInt8) ∈ l := by
      have hj := join_split l
      cases hs : split46 l with
      | nil => exact absurd hs (split46_ne l)
      | cons x xs =>
        rw [hs] at h hj
        cases xs with
        | nil => exact absurd rfl h
        | cons y ys => rw [← hj, joinF]; simp
    obtain ⟨j, hj, e⟩ := List.mem_iff_getElem.1 hm
    refine h2 j (by rw [hsz]; exact hj) ?_
    rw [getElem!_pos (l.toArray) j (by simpa using hj)]
    simp [e]
  · exact ⟨i, e, by rw [hsz] at hi; omega⟩
theorem take_str {l : List UInt8} {k : Nat} : ((⟨l.toArray⟩ : ByteArray).extract 0 k) = ⟨(l.take k).toArray⟩ := by
  apply ByteArray.ext
  apply Array.ext'
  rw [ByteArray.data_extract, Array.toList_extract, List.extract_eq_take_drop]
  simp
theorem nat_at {w : World} {B : Nat} {v : Value} {ns : List Nat} (h : w.ownsRow B 3 1 v ns.length (natV ns)) (h0 : 0 < ns.length) : ∃ g cap, v = .slice (some ⟨g, 0, none⟩) ns.length cap ∧ ns.length ≤ cap ∧ ∀ j (hj : j < ns.length), w.cell? ⟨g, j, none⟩ = some (.int .i64 (ns[j] : Nat)) := by
  rcases id h.2 with ⟨rfl, hn⟩ | ⟨g, cap, cur, rfl, hb, hg, h1, h2, h3, h4⟩
  · omega
  · refine ⟨g, cap, rfl, h1, fun j hj => ?_⟩
    have := h.cells (g := g) rfl j (.int .i64 (ns[j] : Nat)) (by simp [natV, hj])
    rw [addr_add] at this
    simpa using this
theorem contains_names {w : World} {ok : Nat → Prop} {A : Option Addr} {c : Nat} {names : List (List UInt8)} (hs : Sl kstr w ok (.slice A names.length c) names) (h0 : 0 < names.length) (hl : names.length ≤ 2000) (y : List UInt8) :
    Calls Tryz.prog 44 #[.slice A names.length c, .string ⟨y.toArray⟩] w fun e w' => e = .returned (.bool (standsB names y)) ∧ w' = w := by
  obtain ⟨b, o, rfl, _⟩ := hs.str 0 h0
  have hz : (names.map fun x => (⟨x.toArray⟩ : ByteArray)).length = names.length := by simp
  refine (Tryz.slices_Contains_string b o names.length c (names.map fun x => ⟨x.toArray⟩) ⟨y.toArray⟩ w (by rw [hz]; exact Nat.le_refl _) (by omega) (fun j hj => ?_)).mono ?_
  · have hj' : j < names.length := by rw [hz] at hj; exact hj
    obtain ⟨b', o', e, k⟩ := hs.str j hj'
    cases e
    rw [k, List.getD_eq_getElem?_getD, List.getElem?_map, List.getElem?_eq_getElem hj']
    rfl
  · rintro e w' ⟨rfl, rfl⟩
    refine ⟨?_, rfl⟩
    rw [← hz, List.take_length]
    refine retb ?_
    rw [Bool.eq_iff_iff, containsS_iff, List.mem_map]
    unfold standsB
    rw [List.any_eq_true]
    constructor
    · rintro ⟨z, hz, h⟩
      exact ⟨z, hz, by rw [of_decide_eq_true h]⟩
    · rintro ⟨z, hz, h⟩
      refine ⟨z, hz, decide_eq_true ?_⟩
      have := congrArg (fun q : ByteArray => q.data.toList) h
      simpa using this
set_option maxHeartbeats 4000000 in
set_option maxRecDepth 100000 in
theorem owned_any {w : World} {ok : Nat → Prop} {v : Value} {names : List (List UInt8)} (T : NTabs w) (gen shards : Int) (hn : Sl kstr w ok v names) (hl : names.length ≤ 2000) (hb : ∀ x ∈ names, x.length ≤ 4096) :
    Calls Tryz.prog 15 #[v, .int .i64 gen, .int .i64 shards] w (StrsPost w (ownF names gen shards)) := by
  obtain ⟨A, c, rfl, hc, hm⟩ := hn.slice
  have HS := Aside.mk hn
  have HBn := Aside.mk hb
  have HT := Aside.mk T
  have HR0 := Aside.mk (World.ownsRow_nil w w.heap.size 9 1)
  have HB0 := Aside.mk (Below.refl w.heap.size w)
  clear hn hb T
  go_enter Tryz.func15, Tryz.ntmps15
  go_wp2
  go_loopg [7, 15] names.length (fun kq v7 v15 wr => ∃ (i : Nat), Aside (i + kq = names.length) ∧ v15 = .int .i64 i ∧ Aside (Below w.heap.size w wr) ∧ Aside (wr.ownsRow w.heap.size 9 1 v7 ((names.take i).filter fun l => ownedF names l gen shards).length (strs ((names.take i).filter fun l => ownedF names l gen shards))))
  case atStart => exact ⟨0, ⟨by omega⟩, rfl, HB0, HR0⟩
  case round =>
    clear HR0 HB0
    obtain ⟨i, HI, rfl, HB, HR⟩ := hrel
    by_cases hi : i < names.length
    · obtain ⟨b, o, e, k0⟩ := (HS.out.below HB.out).str i hi
      cases e
      have hTk := take_snoc' hi
      have HM : Aside (names.length - (i + 1) < gk ∧ i + 1 + (names.length - (i + 1)) = names.length) := ⟨by have := HI.out; omega⟩
      have hlen : Aside (((names.take i).filter fun l => ownedF names l gen shards).length ≤ 2000) := ⟨Nat.le_trans (List.length_filter_le _ _) (by rw [List.length_take]; omega)⟩
      have hx4 := HBn.out _ (List.getElem_mem hi)
      have hcall := parse_any (HT.out.below HB.out) ⟨names[i].toArray⟩ (by simpa [ByteArray.size] using hx4)
      rw [show (⟨names[i].toArray⟩ : ByteArray).data.toList = names[i] by simp] at hcall
      have HSkip : Aside (ownedF names names[i] gen shards = false → ∀ (wz : World) (vz : Value), wz.ownsRow w.heap.size 9 1 vz ((names.take i).filter fun l => ownedF names l gen shards).length (strs ((names.take i).filter fun l => ownedF names l gen shards)) → wz.ownsRow w.heap.size 9 1 vz ((names.take (i + 1)).filter fun l => ownedF names l gen shards).length (strs ((names.take (i + 1)).filter fun l => ownedF names l gen shards))) := ⟨fun hst wz vz h => by
        have hf : (names.take (i + 1)).filter (fun l => ownedF names l gen shards) = (names.take i).filter (fun l => ownedF names l gen shards) := by
          rw [hTk, List.filter_append]
          simp [hst]
        rw [hf]; exact h⟩
      have HTake : Aside (ownedF names names[i] gen shards = true → (names.take (i + 1)).filter (fun l => ownedF names l gen shards) = (names.take i).filter (fun l => ownedF names l gen shards) ++ [names[i]]) := ⟨fun hst => by
        rw [hTk, List.filter_append]
        simp [hst]⟩
      clear hTk
      generalize names[i] = x at *
      generalize (names.take i).filter (fun l => ownedF names l gen shards) = P at *
      replace HSkip : Aside (ownedF names x gen shards = false → ∀ (wz : World), wz.ownsRow w.heap.size 9 1 u7 P.length (strs P) → wz.ownsRow w.heap.size 9 1 u7 ((names.take (i + 1)).filter fun l => ownedF names l gen shards).length (strs ((names.take (i + 1)).filter fun l => ownedF names l gen shards))) := ⟨fun h wz => HSkip.out h wz u7⟩
      obtain ⟨w1, hw1⟩ : ∃ w1, w1 = wr := ⟨_, rfl⟩
      subst hw1
      go_wp2_with fail
      refine hcall.mono ?_
      clear hcall
      rintro e w3 ⟨B3, hpp⟩
      have HB3 := Aside.mk (bthen HB.out HB.out.size B3)
      have HR3 := Aside.mk (ownsRow_step HR.out B3)
      have k3 := bcell B3 k0
      have HS3 := Aside.mk (HS.out.below HB3.out)
      clear B3 k0 HB HR
      rcases hpp with ⟨h0, wd, vl, rfl⟩ | ⟨ns, hn, h0, vl, rfl, ho⟩
      · have HSk := Aside.mk (owned_none (names := names) (gen := gen) (shards := shards) h0)
        go_wp2
        go_roundg (names.length - (i + 1))
        case measure => exact HM.out.1
        case rel => exact ⟨i + 1, ⟨HM.out.2⟩, by go_num, HB3, ⟨HSkip.out HSk.out _ HR3.out⟩⟩
      · have HF := Aside.mk (owned_some (names := names) (gen := gen) (shards := shards) hn h0)
        have hsh : isShape ((split46 x).headD []) ns.length = true := by
          unfold shapeOk at h0
          rw [hn] at h0
          exact h0
        have HTl : Aside (ns.length = (split46 x).tail.length) := ⟨numsF_len hn⟩
        clear h0 hn
        generalize hW : (split46 x).headD [] = wd at *
        clear hW
        unfold strV
        obtain ⟨hnl, ho⟩ := ho
        rcases isShape_iff hsh with ⟨rfl, h1⟩ | ⟨h2, h1⟩ | ⟨rfl, h1⟩ | ⟨rfl, h1⟩
        · have : ns = [] := List.eq_nil_of_length_eq_zero (by omega)
          subst this
          obtain ⟨rfl, -⟩ | ⟨gv, cap, cur, rfl, -, -, -, -, -, -⟩ := ho
          · clear hsh h1 hnl
            unfold bManifest at *
            have HFe := Aside.mk (HTake.out (HF.out.trans (by simp [progOwn])))
            go_wp2_with (at_builtin; go_must (refine app_one w.heap.size rfl _ _ 22 9 (.string ByteArray.empty) 1 16 rfl Tryz.underlying22 Tryz.infoStr rfl (by decide) (by decide) u7 P.length _ [.string ⟨x.toArray⟩] rfl rfl rfl (by simp [Value.oneCell']) HR3.out HB3.out.size (by have := hlen.out; omega) ?_; intro v1 w6 hown hg6 hat; have HB6 := Aside.mk (HB3.out.grown hg6 HB3.out.size fun q e => (HR3.out.lt q e).1); have HO6 := Aside.mk hown; clear hown hg6 hat))
            go_roundg (names.length - (i + 1))
            case measure => exact HM.out.1
            case rel => exact ⟨i + 1, ⟨HM.out.2⟩, by go_num, HB6, ⟨by rw [HFe.out, strs_snoc, List.length_append]; exact HO6.out⟩⟩
          · clear hsh h1 hnl
            unfold bManifest at *
            have HFe := Aside.mk (HTake.out (HF.out.trans (by simp [progOwn])))
            go_wp2_with (at_builtin; go_must (refine app_one w.heap.size rfl _ _ 22 9 (.string ByteArray.empty) 1 16 rfl Tryz.underlying22 Tryz.infoStr rfl (by decide) (by decide) u7 P.length _ [.string ⟨x.toArray⟩] rfl rfl rfl (by simp [Value.oneCell']) HR3.out HB3.out.size (by have := hlen.out; omega) ?_; intro v1 w6 hown hg6 hat; have HB6 := Aside.mk (HB3.out.grown hg6 HB3.out.size fun q e => (HR3.out.lt q e).1); have HO6 := Aside.mk hown; clear hown hg6 hat))
            go_roundg (names.length - (i + 1))
            case measure => exact HM.out.1
            case rel => exact ⟨i + 1, ⟨HM.out.2⟩, by go_num, HB6, ⟨by rw [HFe.out, strs_snoc, List.length_append]; exact HO6.out⟩⟩
        · match ns, (by omega : ns.length = 1), hnl, ho with
          | [a], _, hnl, ho =>
            obtain ⟨gv, cap, rfl, hcap, kk⟩ := nat_at ⟨hnl, ho⟩ (by simp)
            have ka := kk 0 (by simp)
            simp only [List.getElem_cons_zero, List.length_cons, List.length_nil, Nat.zero_add] at ka hcap
            have n2 : (wd == [115]) = false := by rcases h2 with rfl | rfl | rfl | rfl <;> rfl
            have HN2 : Aside (wd ≠ [115]) := ⟨by simpa using n2⟩
            simp only [List.length_cons, List.length_nil, Nat.zero_add]
            clear hsh h1 hnl ho kk h2
            by_cases hg : (a : Int) = gen
            · have HG := Aside.mk hg
              have g1 : ((a : Int) != gen) = false := by simpa using hg
              have g2 : ((a : Int) == gen) = true := by simpa using hg
              clear hg
              have HFe := Aside.mk (HTake.out (HF.out.trans (by simp [progOwn, HG.out, HN2.out])))
              go_wp2_with (at_builtin; go_must (refine app_one w.heap.size rfl _ _ 22 9 (.string ByteArray.empty) 1 16 rfl Tryz.underlying22 Tryz.infoStr rfl (by decide) (by decide) u7 P.length _ [.string ⟨x.toArray⟩] rfl rfl rfl (by simp [Value.oneCell']) HR3.out HB3.out.size (by have := hlen.out; omega) ?_; intro v1 w6 hown hg6 hat; have HB6 := Aside.mk (HB3.out.grown hg6 HB3.out.size fun q e => (HR3.out.lt q e).1); have HO6 := Aside.mk hown; clear hown hg6 hat))
              go_roundg (names.length - (i + 1))
              case measure => exact HM.out.1
              case rel => exact ⟨i + 1, ⟨HM.out.2⟩, by go_num, HB6, ⟨by rw [HFe.out, strs_snoc, List.length_append]; exact HO6.out⟩⟩
            · have HG := Aside.mk hg
              have g1 : ((a : Int) != gen) = true := by simpa using hg
              have g2 : ((a : Int) == gen) = false := by simpa using hg
              clear hg
              have HSk := Aside.mk (fun (h : ownedF names x gen shards = false) => HSkip.out h _ HR3.out)
              have HSk2 := Aside.mk (HSk.out (HF.out.trans (by simp [progOwn, HG.out])))
              clear HSk
              go_wp2
              go_roundg (names.length - (i + 1))
              case measure => exact HM.out.1
              case rel => exact ⟨i + 1, ⟨HM.out.2⟩, by go_num, HB3, HSk2⟩
        · match ns, (by omega : ns.length = 2), hnl, ho with
          | [a, b], _, hnl, ho =>
            obtain ⟨gv, cap, rfl, hcap, kk⟩ := nat_at ⟨hnl, ho⟩ (by simp)
            have ka := kk 0 (by simp)
            have kb := kk 1 (by simp)
            simp only [List.getElem_cons_zero, List.getElem_cons_succ, List.length_cons, List.length_nil, Nat.zero_add, Nat.reduceAdd] at ka kb hcap
            simp only [List.length_cons, List.length_nil, Nat.zero_add, Nat.reduceAdd]
            clear hsh h1 hnl ho kk
            by_cases hg : (a : Int) = gen
            · have HG := Aside.mk hg
              have g1 : ((a : Int) != gen) = false := by simpa using hg
              have g2 : ((a : Int) == gen) = true := by simpa using hg
              clear hg
              by_cases hb : shards ≤ (b : Int)
              · have HBb := Aside.mk hb
                have HSk := Aside.mk (fun (h : ownedF names x gen shards = false) => HSkip.out h _ HR3.out)
                have HSk2 := Aside.mk (HSk.out (HF.out.trans (by simp [progOwn, HG.out, HBb.out])))
                clear HSk
                go_wp2
                go_roundg (names.length - (i + 1))
                case measure => exact HM.out.1
                case rel => exact ⟨i + 1, ⟨HM.out.2⟩, by go_num, HB3, HSk2⟩
              · have HBb := Aside.mk hb
                replace hb : (b : Int) < shards := by omega
                have HFe := Aside.mk (HTake.out (HF.out.trans (by simp [progOwn, HG.out, HBb.out])))
                go_wp2_with (at_builtin; go_must (refine app_one w.heap.size rfl _ _ 22 9 (.string ByteArray.empty) 1 16 rfl Tryz.underlying22 Tryz.infoStr rfl (by decide) (by decide) u7 P.length _ [.string ⟨x.toArray⟩] rfl rfl rfl (by simp [Value.oneCell']) HR3.out HB3.out.size (by have := hlen.out; omega) ?_; intro v1 w6 hown hg6 hat; have HB6 := Aside.mk (HB3.out.grown hg6 HB3.out.size fun q e => (HR3.out.lt q e).1); have HO6 := Aside.mk hown; clear hown hg6 hat))
                go_roundg (names.length - (i + 1))
                case measure => exact HM.out.1
                case rel => exact ⟨i + 1, ⟨HM.out.2⟩, by go_num, HB6, ⟨by rw [HFe.out, strs_snoc, List.length_append]; exact HO6.out⟩⟩
            · have HG := Aside.mk hg
              have g1 : ((a : Int) != gen) = true := by simpa using hg
              have g2 : ((a : Int) == gen) = false := by simpa using hg
              clear hg
              have HSk := Aside.mk (fun (h : ownedF names x gen shards = false) => HSkip.out h _ HR3.out)
              have HSk2 := Aside.mk (HSk.out (HF.out.trans (by simp [progOwn, HG.out])))
              clear HSk
              go_wp2
              go_roundg (names.length - (i + 1))
              case measure => exact HM.out.1
              case rel => exact ⟨i + 1, ⟨HM.out.2⟩, by go_num, HB3, HSk2⟩
        · have n2 : (([120] : List UInt8) == [115]) = false := rfl
          rcases h1 with h1 | h1
          · match ns, (by omega : ns.length = 2), hnl, ho with
            | [a, b], _, hnl, ho =>
              obtain ⟨gv, cap, rfl, hcap, kk⟩ := nat_at ⟨hnl, ho⟩ (by simp)
              have ka := kk 0 (by simp)
              simp only [List.getElem_cons_zero, List.length_cons, List.length_nil, Nat.zero_add, Nat.reduceAdd] at ka hcap
              simp only [List.length_cons, List.length_nil, Nat.zero_add, Nat.reduceAdd]
              clear hsh h1 hnl ho kk
              by_cases hg : (a : Int) = gen
              · have HG := Aside.mk hg
                have g1 : ((a : Int) != gen) = false := by simpa using hg
                have g2 : ((a : Int) == gen) = true := by simpa using hg
                clear hg
                have HFe := Aside.mk (HTake.out (HF.out.trans (by simp [progOwn, HG.out])))
                go_wp2_with (at_builtin; go_must (refine app_one w.heap.size rfl _ _ 22 9 (.string ByteArray.empty) 1 16 rfl Tryz.underlying22 Tryz.infoStr rfl (by decide) (by decide) u7 P.length _ [.string ⟨x.toArray⟩] rfl rfl rfl (by simp [Value.oneCell']) HR3.out HB3.out.size (by have := hlen.out; omega) ?_; intro v1 w6 hown hg6 hat; have HB6 := Aside.mk (HB3.out.grown hg6 HB3.out.size fun q e => (HR3.out.lt q e).1); have HO6 := Aside.mk hown; clear hown hg6 hat))
                go_roundg (names.length - (i + 1))
                case measure => exact HM.out.1
                case rel => exact ⟨i + 1, ⟨HM.out.2⟩, by go_num, HB6, ⟨by rw [HFe.out, strs_snoc, List.length_append]; exact HO6.out⟩⟩
              · have HG := Aside.mk hg
                have g1 : ((a : Int) != gen) = true := by simpa using hg
                have g2 : ((a : Int) == gen) = false := by simpa using hg
                clear hg
                have HSk := Aside.mk (fun (h : ownedF names x gen shards = false) => HSkip.out h _ HR3.out)
                have HSk2 := Aside.mk (HSk.out (HF.out.trans (by simp [progOwn, HG.out])))
                clear HSk
                go_wp2
                go_roundg (names.length - (i + 1))
                case measure => exact HM.out.1
                case rel => exact ⟨i + 1, ⟨HM.out.2⟩, by go_num, HB3, HSk2⟩
          · match ns, (by omega : ns.length = 3), hnl, ho, HTl.out with
            | [a, b, d], _, hnl, ho, hTl =>
              obtain ⟨gv, cap, rfl, hcap, kk⟩ := nat_at ⟨hnl, ho⟩ (by simp)
              have ka := kk 0 (by simp)
              have kb := kk 2 (by simp)
              simp only [List.getElem_cons_zero, List.getElem_cons_succ, List.length_cons, List.length_nil, Nat.zero_add, Nat.reduceAdd] at ka kb hcap
              simp only [List.length_cons, List.length_nil, Nat.zero_add, Nat.reduceAdd]
              obtain ⟨kl, hkl, hkx⟩ := last_ok (l := x) (fun h => by rw [h] at hTl; simp at hTl)
              have HK := Aside.mk hkl
              have HKx := Aside.mk hkx
              clear hsh h1 hnl ho kk hTl hkl
              by_cases hg : (a : Int) = gen
              · have HG := Aside.mk hg
                have g1 : ((a : Int) != gen) = false := by simpa using hg
                have g2 : ((a : Int) == gen) = true := by simpa using hg
                clear hg
                by_cases hb : shards ≤ (d : Int)
                · have HBb := Aside.mk hb
                  have HSk := Aside.mk (fun (h : ownedF names x gen shards = false) => HSkip.out h _ HR3.out)
                  have HSk2 := Aside.mk (HSk.out (HF.out.trans (by simp [progOwn, HG.out, HBb.out])))
                  clear HSk
                  go_wp2
                  go_roundg (names.length - (i + 1))
                  case measure => exact HM.out.1
                  case rel => exact ⟨i + 1, ⟨HM.out.2⟩, by go_num, HB3, HSk2⟩
                · have HBb := Aside.mk hb
                  replace hb : (d : Int) < shards := by omega
                  have hkx' : kl ≤ (⟨x.toArray⟩ : ByteArray).size := hkx
                  have hcl := Tryz.strings_LastIndexByte ⟨x.toArray⟩ 46 (by have : (⟨x.toArray⟩ : ByteArray).size = x.length := rfl; omega) w3
                  rw [HK.out] at hcl
                  have HTS := Aside.mk (take_str (l := x) (k := kl))
                  have hcn := contains_names HS3.out (by omega) hl (x.take kl)
                  have hb2 : decide (shards ≤ (d : Int)) = false := decide_eq_false HBb.out
                  obtain ⟨st, hst⟩ : ∃ st, st = standsB names (x.take kl) := ⟨_, rfl⟩
                  rw [← hst] at hcn
                  have HST := Aside.mk hst
                  have HKe : Aside ((lastIndexByte ⟨x.toArray⟩ 46).toNat = kl) := ⟨by rw [HK.out, Int.toNat_natCast]⟩
                  clear hkx hst
                  go_wp2_with fail
                  refine hcl.mono ?_
                  clear hcl
                  rintro e w4 ⟨rfl, rfl⟩
                  go_wp2_with fail
                  rw [HTS.out]
                  refine hcn.mono ?_
                  clear hcn
                  rintro e w5 ⟨rfl, rfl⟩
                  cases st with
                  | false =>
                    have HSk := Aside.mk (fun (h : ownedF names x gen shards = false) => HSkip.out h _ HR3.out)
                    have HSk2 := Aside.mk (HSk.out (HF.out.trans (by simp [progOwn, HG.out, HKe.out, HST.out.symm])))
                    clear HSk
                    go_wp2
                    go_roundg (names.length - (i + 1))
                    case measure => exact HM.out.1
                    case rel => exact ⟨i + 1, ⟨HM.out.2⟩, by go_num, HB3, HSk2⟩
                  | true =>
                    have HFe := Aside.mk (HTake.out (HF.out.trans (by simp [progOwn, HG.out, HBb.out, HKe.out, HST.out.symm])))
                    go_wp2_with (at_builtin; go_must (refine app_one w.heap.size rfl _ _ 22 9 (.string ByteArray.empty) 1 16 rfl Tryz.underlying22 Tryz.infoStr rfl (by decide) (by decide) u7 P.length _ [.string ⟨x.toArray⟩] rfl rfl rfl (by simp [Value.oneCell']) HR3.out HB3.out.size (by have := hlen.out; omega) ?_; intro v1 w6 hown hg6 hat; have HB6 := Aside.mk (HB3.out.grown hg6 HB3.out.size fun q e => (HR3.out.lt q e).1); have HO6 := Aside.mk hown; clear hown hg6 hat))
                    go_roundg (names.length - (i + 1))
                    case measure => exact HM.out.1
                    case rel => exact ⟨i + 1, ⟨HM.out.2⟩, by go_num, HB6, ⟨by rw [HFe.out, strs_snoc, List.length_append]; exact HO6.out⟩⟩
              · have HG := Aside.mk hg
                have g1 : ((a : Int) != gen) = true := by simpa using hg
                have g2 : ((a : Int) == gen) = false := by simpa using hg
                clear hg
                have HSk := Aside.mk (fun (h : ownedF names x gen shards = false) => HSkip.out h _ HR3.out)
                have HSk2 := Aside.mk (HSk.out (HF.out.trans (by simp [progOwn, HG.out])))
                clear HSk
                go_wp2
                go_roundg (names.length - (i + 1))
                case measure => exact HM.out.1
                case rel => exact ⟨i + 1, ⟨HM.out.2⟩, by go_num, HB3, HSk2⟩
    · have ht : names.take i = names := List.take_of_length_le (by omega)
      have HP : Aside (StrsPost w (ownF names gen shards) (.returned u7) wr) := ⟨_, rfl, by rw [ht] at HR; exact HR.out, HB.out⟩
      replace hi : names.length ≤ i := by omega
      clear ht HR HB
      go_wp2
      go_ret
      exact HP.out
end Go.Proofs.YtgbladpoglhleaaGreatDoor
