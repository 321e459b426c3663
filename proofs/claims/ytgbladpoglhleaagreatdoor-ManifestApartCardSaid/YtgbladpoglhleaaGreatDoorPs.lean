/- The program's parse of a name. Condition: the tables of the text and the library's errors. -/
import Derived.Test.YtgbladpoglhleaaGreatDoorPz
import Derived.Test.YtgbladpoglhleaaGreatDoorMc
import Derived.Test.YtgbladpoglhleaaGreatDoorNr
import Derived.Test.YtgbladpoglhleaaGreatDoorAt
import Derived.Test.YtgbladpoglhleaaGreatDoorSd
import Derived.Test.YtgbladpoglhleaaGreatDoorShelfN
namespace Go.Proofs.YtgbladpoglhleaaGreatDoor
open Go.RowKit Go.Lib
/-- strings.Split at the point. -/
theorem split_any (s : ByteArray) (hs : s.size ≤ 4096) (w : World) : Calls Tryz.prog 68 #[.string s, .string ⟨#[46]⟩] w (StrsPost w (split46 s.data.toList)) := by
  have hle := countB_le ⟨#[46]⟩ (by decide) s.size s (Nat.le_refl _)
  have hlen := splitB_all ⟨#[46]⟩ (by decide) 0 _ s rfl
  have c := Any.strings_genSplit_core Tryz.lays221 (by kernel_rfl) s ⟨#[46]⟩ 0 (-1) (countB s ⟨#[46]⟩ + 1) w (by omega) (by decide) (Nat.zero_le _)
    (fun x c hx => (Any.strings_Index_one Tryz.lays143 x 46 _).mono fun e w' ⟨he, hw⟩ => ⟨by rw [he]; show _ = Ending.returned (.int .i64 (index x.data.toList [46])); rw [index_one], hw⟩)
    ((Any.strings_Count_one Tryz.lays138 s 46 w).mono fun e w' ⟨he, hw⟩ => ⟨by rw [he]; show _ = Ending.returned (.int .i64 ((count s.data.toList [46] : Nat) : Int)); rw [count_one]; rfl, hw⟩)
    (by decide) (by decide) (by rw [if_pos (by decide)]; omega)
  rw [Nat.add_sub_cancel, hlen] at c
  have e2 : cellsOf (splitB ⟨#[46]⟩ 0 (countB s ⟨#[46]⟩) s) (countB s ⟨#[46]⟩ + 1) = (strs (split46 s.data.toList)).toArray := by
    rw [← hlen, cellsOf_full, splitB_46]
  rw [e2] at c
  have hn : countB s ⟨#[46]⟩ + 1 = (split46 s.data.toList).length := by
    rw [← hlen]
    have := congrArg List.length (splitB_46 s)
    simpa [strs] using this
  clear hle hlen e2
  have hb := (split46 s.data.toList).length
  have hlen2 := (parts_len s.data.toList).1
  rw [show s.data.toList.length = s.size by simp] at hlen2
  rw [hn] at c
  have hR : (w.alloc (.cells (strs (split46 s.data.toList)).toArray 9)).ownsRow w.heap.size 9 1 (.slice (some ⟨w.heap.size, 0, none⟩) (split46 s.data.toList).length (split46 s.data.toList).length) (split46 s.data.toList).length (strs (split46 s.data.toList)) :=
    ⟨by simp [strs], .inr ⟨_, _, _, rfl, Nat.le_refl _, heap_alloc_new w _, Nat.le_refl _, by simp only [maxLen]; omega, by simp [strs], by simp [strs, List.take_of_length_le]⟩⟩
  have hB := (Below.refl w.heap.size w).alloc (Nat.le_refl _) (.cells (strs (split46 s.data.toList)).toArray 9)
  have HP : Aside (StrsPost w (split46 s.data.toList) (.returned (.slice (some ⟨w.heap.size, 0, none⟩) (split46 s.data.toList).length (split46 s.data.toList).length)) (w.alloc (.cells (strs (split46 s.data.toList)).toArray 9))) := ⟨_, rfl, hR, hB⟩
  clear hR hB hn hlen2
  go_enter Tryz.func68, Tryz.ntmps68
  go_wp2_with fail
  refine c.mono ?_
  rintro e w1 ⟨rfl, rfl⟩
  go_wp2
  go_ret
  exact HP.out
/-- What a call of parse wants to lie in memory. -/
structure NTabs (w : World) : Prop where
  errs : Errs w
  pow : Pow w
  sh : ShCells w
theorem Errs.below {w w' : World} (h : Errs w) (hb : Below w.heap.size w w') : Errs w' := by
  have key : ∀ n cs, w.var? Tryz.prog n = some cs → w'.var? Tryz.prog n = some cs := fun n cs h => by
    unfold World.var? at h ⊢
    cases hg : Tryz.prog.globalNamed n with
    | none => rw [hg] at h; simp at h
    | some g =>
      rw [hg] at h
      simp only [Option.bind_some] at h ⊢
      cases hq : w.heap[g]? with
      | none => rw [hq] at h; simp at h
      | some o =>
        rw [bblk hb hq]
        rw [hq] at h
        exact h
  obtain ⟨⟨a, b, h1⟩, ⟨c, d, h2⟩⟩ := h
  exact ⟨⟨a, b, key _ _ h1⟩, ⟨c, d, key _ _ h2⟩⟩
theorem NTabs.below {w w' : World} (T : NTabs w) (hb : Below w.heap.size w w') : NTabs w' := ⟨T.errs.below hb, T.pow.below hb, T.sh.below hb⟩
def natV (ns : List Nat) : List Value := ns.map fun (n : Nat) => Value.int .i64 (n : Int)
theorem natV_snoc (ns : List Nat) (n : Nat) : natV (ns ++ [n]) = natV ns ++ [.int .i64 (n : Int)] := by simp [natV]
theorem numsF_none_at {xs : List (List UInt8)} {i : Nat} (hi : i < xs.length) (h : numF xs[i] = none) : numsF xs = none := by
  have ha : allNum xs = false := by unfold allNum; rw [List.all_eq_false]; exact ⟨xs[i], List.getElem_mem hi, by rw [h]; decide⟩
  rw [numsF_all] at ha
  cases hq : numsF xs with
  | none => rfl
  | some _ => rw [hq] at ha; cases ha
def ParsePost (w : World) (l : List UInt8) (e : Ending) (w' : World) : Prop :=
  Below w.heap.size w w' ∧ ((shapeOk l = false ∧ ∃ x v, e = .returned (.tuple #[x, v, .bool false])) ∨
    (∃ ns, numsF (split46 l).tail = some ns ∧ shapeOk l = true ∧ ∃ v, e = .returned (.tuple #[strV ((split46 l).headD []), v, .bool true]) ∧ w'.ownsRow w.heap.size 3 1 v ns.length (natV ns)))
set_option maxHeartbeats 4000000 in
set_option maxRecDepth 100000 in
theorem parse_any {w : World} (T : NTabs w) (s : ByteArray) (hs : s.size ≤ 4096) : Calls Tryz.prog 39 #[.string s] w (ParsePost w s.data.toList) := by
  have hcall := split_any s hs w
  have HT := Aside.mk T
  clear T
  go_enter Tryz.func39, Tryz.ntmps39
  go_wp2_with fail
  refine hcall.mono ?_
  clear hcall
  rintro e w1 ⟨v, rfl, ho, B1⟩
  have hpl := parts_len s.data.toList
  rw [show s.data.toList.length = s.size by simp] at hpl
  have hsl := (own_strs ho).sl
  have HB1 := Aside.mk B1
  have HT1 := Aside.mk (HT.out.below B1)
  have HO : Aside (shapeOk s.data.toList = match numsF (split46 s.data.toList).tail with
    | none => false
    | some ns => isShape ((split46 s.data.toList).headD []) ns.length) := ⟨rfl⟩
  have HPP : Aside (∀ e w', ParsePost w s.data.toList e w' = (Below w.heap.size w w' ∧ ((shapeOk s.data.toList = false ∧ ∃ x v, e = .returned (.tuple #[x, v, .bool false])) ∨
    (∃ ns, numsF (split46 s.data.toList).tail = some ns ∧ shapeOk s.data.toList = true ∧ ∃ v, e = .returned (.tuple #[strV ((split46 s.data.toList).headD []), v, .bool true]) ∧ w'.ownsRow w.heap.size 3 1 v ns.length (natV ns))))) := ⟨fun _ _ => rfl⟩
  cases hsp : split46 s.data.toList with
  | nil => exact absurd hsp (split46_ne _)
  | cons x xs =>
    rw [hsp] at hsl HO HPP hpl
    simp only [List.tail_cons, List.headD_cons] at HO HPP
    clear ho hsp B1
    obtain ⟨A, c, rfl, hc, hm, h3⟩ := id hsl
    obtain ⟨b, o, rfl, -, -, -⟩ := h3 (by simp)
    obtain ⟨b', o', e, k0⟩ := (hsl.str 0 (by simp))
    cases e
    have ht := hsl.tail
    have hxs : xs.length + 1 ≤ c := hc
    have hx1 : xs.length ≤ 4096 := by have := hpl.1; simp at this; omega
    have HX4 : Aside (∀ p ∈ xs, p.length ≤ 4096) := ⟨fun p hp => Nat.le_trans (hpl.2 p (List.mem_cons_of_mem _ hp)) hs⟩
    simp only [List.getElem_cons_zero, Nat.add_zero, List.length_cons] at k0 ⊢
    clear h3 hsl hc hpl
    have HS := Aside.mk ht
    have HK := Aside.mk k0
    have HR0 := Aside.mk (World.ownsRow_nil w1 w1.heap.size 3 1)
    clear ht k0
    go_upto_region 3 with (fail)
    go_cut [14, 15, 16] (fun v14 v15 v16 wx => (∃ A' c', v14 = .slice A' xs.length c') ∧ Aside (Sl kstr w1 (fun x => w.heap.size ≤ x) v14 xs) ∧ v15 = .int .i64 (xs.length : Int) ∧ v16 = .int .i64 0 ∧ wx = w1)
    case first =>
      by_cases hc1 : c = 1
      · have hnil : xs = [] := List.eq_nil_of_length_eq_zero (by omega)
        subst hnil
        subst hc1
        go_wp2
        go_meet
        case rel => exact ⟨⟨_, _, rfl⟩, ⟨⟨_, 0, rfl, Nat.le_refl _, by decide, fun h => absurd h (Nat.lt_irrefl 0)⟩⟩, rfl, rfl, rfl⟩
      · have h1 : (1 == c) = false := beq_false_of_ne (Ne.symm hc1)
        have h2 : (c == 1) = false := beq_false_of_ne hc1
        have h3 : ¬ (1 = c) := Ne.symm hc1
        go_wp2
        go_meet
        case rel => exact ⟨⟨_, _, rfl⟩, HS, rfl, rfl, rfl⟩
    case rest =>
      obtain ⟨⟨A', c', rfl⟩, HS', rfl, rfl, rfl⟩ := hcut
      clear HS
      go_wp2
      go_loopg [6, 16] xs.length (fun kq v6 v16 wr => ∃ (i : Nat) (ns : List Nat), Aside (i + kq = xs.length) ∧ v16 = .int .i64 i ∧ Aside (Below w.heap.size w wr) ∧ Aside (Below wc.heap.size wc wr) ∧ Aside (numsF (xs.take i) = some ns ∧ ns.length = i) ∧ Aside (wr.ownsRow wc.heap.size 3 1 v6 ns.length (natV ns)))
      case atStart => exact ⟨0, [], ⟨by omega⟩, rfl, HB1, ⟨Below.refl _ _⟩, ⟨rfl, rfl⟩, HR0⟩
      case round =>
        clear HR0
        obtain ⟨i, ns, HI, rfl, HB, HBq, HN, HR⟩ := hrel
        by_cases hi : i < xs.length
        · obtain ⟨b', o', e, k1⟩ := (HS'.out.below HBq.out).str i hi
          cases e
          have HM : Aside (xs.length - (i + 1) < gk ∧ i + 1 + (xs.length - (i + 1)) = xs.length) := ⟨by have := HI.out; omega⟩
          have HNo := Aside.mk (fun h => numsF_none_at (xs := xs) hi h)
          have HT6 := Aside.mk (take_snoc' hi)
          have hx4 := HX4.out _ (List.getElem_mem hi)
          have hpart := Aside.mk (@ok_part xs[i])
          have hof := Aside.mk (@part_ok xs[i])
          have hTr := HT.out.below HB.out
          have hat := atoi_ok ⟨xs[i].toArray⟩ (by simpa [ByteArray.size] using hx4)
          have hbad := atoi_bad ⟨xs[i].toArray⟩ (by simpa [ByteArray.size] using hx4)
          rw [show (⟨xs[i].toArray⟩ : ByteArray).data.toList = xs[i] by simp] at hat hbad
          have HTr := Aside.mk hTr
          have HFb : Aside (numF xs[i] = none → ∀ e w', Below w.heap.size w w' → (∃ x v, e = Ending.returned (.tuple #[x, v, .bool false])) → ParsePost w s.data.toList e w') := ⟨fun hn e w' hb he => by
            rw [HPP.out]
            refine ⟨hb, .inl ⟨?_, he⟩⟩
            rw [HO.out, HNo.out hn]⟩
          generalize xs[i] = p at *
          clear hx4 hTr
          by_cases hv : ∃ v, atoiAll p = .ok v
          · obtain ⟨v, hv⟩ := hv
            have hcall := hat v hv wr
            have HPo : Aside (∀ n, numF p = some n → (n : Int) = v ∧ itoa v = p ∧ n ≤ 2147483647) := ⟨fun n hn => by
              obtain ⟨h1, h2, h3⟩ := hpart.out hn
              rw [hv] at h1
              have : v = (n : Int) := by injection h1
              subst this
              exact ⟨rfl, h2, h3⟩⟩
            clear hat hbad hv
            go_wp2_with fail
            refine hcall.mono ?_
            clear hcall
            rintro e w2 ⟨rfl, B2⟩
            have HB2 := Aside.mk (bthen HB.out HB.out.size B2)
            have HBq2 := Aside.mk (bthen HBq.out HBq.out.size B2)
            have HR2 := Aside.mk (ownsRow_step HR.out B2)
            have HT2 := Aside.mk (HTr.out.below B2)
            clear B2 HB HBq HR HTr k1
            by_cases h0 : v < 0
            · have hn : numF p = none := by
                cases hq : numF p with
                | none => rfl
                | some n => have := (HPo.out n hq).1; omega
              have HP := Aside.mk fun e w' h1 h2 => HFb.out hn e w' h1 h2
              clear HPo HFb hn hof hpart
              go_wp2
              go_ret3
              exact HP.out _ _ HB2.out ⟨_, _, rfl⟩
            · by_cases h1 : 2147483647 < v
              · have hn : numF p = none := by
                  cases hq : numF p with
                  | none => rfl
                  | some n => have := HPo.out n hq; omega
                have HP := Aside.mk fun e w' h1 h2 => HFb.out hn e w' h1 h2
                clear HPo HFb hn hof hpart
                go_wp2
                go_ret3
                exact HP.out _ _ HB2.out ⟨_, _, rfl⟩
              · have hcall := itoa_any v (by omega) (by omega) w2 HT2.out.pow
                have h0' : 0 ≤ v := by omega
                have h1' : v ≤ 2147483647 := by omega
                have f1 : decide (v < 0) = false := decide_eq_false h0
                have f2 : decide (2147483647 < v) = false := decide_eq_false h1
                clear h0 h1
                go_wp2_with fail
                refine hcall.mono ?_
                clear hcall
                rintro e w3 ⟨rfl, B3⟩
                have HB3 := Aside.mk (bthen HB2.out HB2.out.size B3)
                have HBq3 := Aside.mk (bthen HBq2.out HBq2.out.size B3)
                have HR3 := Aside.mk (ownsRow_step HR2.out B3)
                clear B3 HB2 HBq2 HR2 HT2
                by_cases hp : itoa v = p
                · have hn : numF p = some v.toNat := hof.out h0' h1' hp
                  have e1 : (itoa v == p) = true := beq_iff_eq.2 hp
                  have e2 : (itoa v != p) = false := by simp [hp]
                  have HN4 : Aside (numsF (xs.take (i + 1)) = some (ns ++ [v.toNat]) ∧ (ns ++ [v.toNat]).length = i + 1) := ⟨by
                    rw [HT6.out, numsF_append, HN.out.1, numsF_cons hn]
                    refine ⟨rfl, ?_⟩
                    rw [List.length_append, HN.out.2]; rfl⟩
                  have hnl : ns.length ≤ 4096 := by rw [HN.out.2]; omega
                  have HVe : Aside (natV (ns ++ [v.toNat]) = natV ns ++ [.int .i64 v]) := ⟨by rw [natV_snoc, Int.toNat_of_nonneg h0']⟩
                  have HNl := Aside.mk hnl
                  clear hnl hn hp HPo HFb hof hpart HN
                  go_wp2_with (at_builtin; go_must (refine app_one wc.heap.size rfl _ _ 30 3 (.int .i64 0) 1 8 rfl Tryz.underlying30 Tryz.infoInt rfl (by decide) (by decide) u6 ns.length _ [.int .i64 v] rfl rfl rfl (by simp [Value.oneCell']) HR3.out HBq3.out.size (by have := HNl.out; omega) ?_; intro v1 w6 hown hg6 hat; have HB6 := Aside.mk (HB3.out.grown hg6 HB3.out.size fun q e => Nat.le_trans HB1.out.size (HR3.out.lt q e).1); have HBq6 := Aside.mk (HBq3.out.grown hg6 HBq3.out.size fun q e => (HR3.out.lt q e).1); have HO6 := Aside.mk hown; clear hown hg6 hat))
                  go_roundg (xs.length - (i + 1))
                  case measure => exact HM.out.1
                  case rel => exact ⟨i + 1, ns ++ [v.toNat], ⟨HM.out.2⟩, by go_num, HB6, HBq6, HN4, ⟨by rw [HVe.out, List.length_append]; exact HO6.out⟩⟩
                · have hn : numF p = none := by
                    cases hq : numF p with
                    | none => rfl
                    | some n => exact absurd (HPo.out n hq).2.1 hp
                  have e1 : (itoa v == p) = false := beq_false_of_ne hp
                  have e2 : (itoa v != p) = true := by simp [hp]
                  have HP := Aside.mk fun e w' h1 h2 => HFb.out hn e w' h1 h2
                  clear HPo HFb hn hof hpart hp
                  go_wp2
                  go_ret3
                  exact HP.out _ _ HB3.out ⟨_, _, rfl⟩
          · have hn : numF p = none := by
              cases hq : numF p with
              | none => rfl
              | some n => exact absurd ⟨_, (hpart.out hq).1⟩ hv
            have hcall := hbad (fun v e => hv ⟨v, e⟩) wr HTr.out.errs
            have HP := Aside.mk fun e w' h1 h2 => HFb.out hn e w' h1 h2
            clear hat hbad hv hn HFb hof hpart
            go_wp2_with fail
            refine hcall.mono ?_
            clear hcall
            rintro e w2 ⟨k, t, a, rfl, B2⟩
            have HB2 := Aside.mk (bthen HB.out HB.out.size B2)
            clear B2 k1 HBq HR HN
            go_wp2
            go_ret3
            exact HP.out _ _ HB2.out ⟨_, _, rfl⟩
        · have ht : xs.take i = xs := List.take_of_length_le (by omega)
          have HN2 := Aside.mk HN.out.1
          rw [ht] at HN2
          have hHT := HT.out.below HB.out
          have kx := bcell HBq.out HK.out
          replace hi : xs.length ≤ i := by omega
          have HL := Aside.mk HN.out.2
          have bl1 : Below wr.heap.size wr wr.drew := bdrew1 (Below.refl _ _)
          have HC := Aside.mk (contains_any (w := wr.drew) (hHT.below bl1).sh x (ns.length : Int))
          have HB5 := Aside.mk (fun w5 (q : Below wr.drew.heap.size wr.drew w5) => (⟨bthen HB.out HB.out.size (bl1.trans q), own_low (ownsRow_step (ownsRow_step HR.out bl1) q) HB1.out.size, bcell q (bcell bl1 kx)⟩ : Below w.heap.size w w5 ∧ w5.ownsRow w.heap.size 3 1 u6 ns.length (natV ns) ∧ w5.cell? ⟨b, o, none⟩ = some (.string ⟨x.toArray⟩)))
          have hu : ∃ A6 c6, u6 = .slice A6 ns.length c6 := by
            obtain ⟨_, h⟩ := HR.out
            rcases h with ⟨rfl, h0⟩ | ⟨g, cap, cur, rfl, _⟩
            · exact ⟨none, 0, by rw [h0]⟩
            · exact ⟨_, _, rfl⟩
          obtain ⟨A6, c6, rfl⟩ := hu
          have kx1 := bcell bl1 kx
          clear ht HN hHT bl1
          go_upto_region 11 with (fail)
          go_region_held3 (fun w' => w'.cell? ⟨b, o, none⟩ = some (.string ⟨x.toArray⟩)) (first | (go_keep; done))
            (first
              | (go_at_call 70; refine HC.out.mono ?_; rintro e w5 ⟨rfl, B5⟩; obtain ⟨hb5, ho5, k5⟩ := HB5.out _ B5; have HBB := Aside.mk hb5; have HOO := Aside.mk ho5; clear hb5 ho5 B5))
          have HPf : Aside (ParsePost w s.data.toList (.returned (.tuple #[strV x, .slice A6 ns.length c6, .bool (isShape x ns.length)])) w5) := ⟨by
            rw [HPP.out]
            refine ⟨HBB.out, ?_⟩
            have hO := HO.out
            rw [HN2.out] at hO
            simp only at hO
            cases hsh : isShape x (ns.length : Int) with
            | false => exact .inl ⟨by rw [hO, hsh], _, _, rfl⟩
            | true => exact .inr ⟨ns, HN2.out, by rw [hO, hsh], _, rfl, HOO.out⟩⟩
          go_wp2
          go_ret3
          exact HPf.out
end Go.Proofs.YtgbladpoglhleaaGreatDoor
