import Derived.Test.YtikgdhmnnnicmaaDoorK
namespace Go.Proofs.YtikgdhmnnnicmaaDoor
open Go.RowKit
theorem OutSt.slice {p : At} {n : Nat} {w0 w : World} {rows0 rows : List Value} {ov0 ov : Value} {S : UF} {out : List Node} (h : OutSt p n w0 rows0 ov0 w S rows ov out) : ∃ A c, ov = .slice A out.length c := by
  rcases h.own.2 with ⟨rfl, h0⟩ | ⟨g, cap, cur, rfl, _⟩
  · exact ⟨none, 0, by rw [h0]⟩
  · exact ⟨_, _, rfl⟩
theorem topsF_length {is : List Int} : ∀ {o o' : List Node}, topsF o is = some o' → o'.length = o.length := by
  induction is with
  | nil => intro o o' h; simp only [topsF, List.foldlM_nil] at h; cases h; rfl
  | cons i is ih =>
    intro o o' h
    simp only [topsF, List.foldlM_cons] at h
    obtain ⟨c, hc, h⟩ := Option.bind_eq_some_iff.1 h
    split at hc
    · cases hc
      have := ih h
      simpa using this
    · cases hc
attribute [local go_sem ↓] append_open
set_option maxHeartbeats 8000000 in
set_option maxRecDepth 100000 in
theorem level_any {p : At} {n K : Nat} {w : World} {S S1 S2 : UF} {rows : List Value} {gv vsv ov : Value} {adj : List (List Int)} {vs ks : List Int} {k : Int} {out out' : List Node} {tops' : List (List Int)}
    (hF : FSt p n w S rows) (hB : p.B ≤ w.heap.size) (hG : GraphIs w (fun q => ¬ foot p rows q) gv n adj) (hal : adj.length = n) (hadj : ∀ l ∈ adj, l.length ≤ 16777216 ∧ ∀ u ∈ l, 0 ≤ u ∧ u < n)
    (hvs : Sl kint w (fun q => ¬ foot p rows q) vsv vs) (hvr : ∀ v ∈ vs, 0 ≤ v ∧ v < n) (hvl : vs.length ≤ 16777216) (ho : w.ownsRow p.B 27 4 ov out.length (nodeCells out)) (hon : ∀ q, ov.ownBlock = some q → ¬ foot p rows q)
    (h1 : takeF K adj S vs = some S1) (h2 : partsF K ([], S1) vs = some (ks, S2)) (hlb : ∀ r ∈ ks, 0 ≤ S2.least.getD r.toNat 0 ∧ S2.least.getD r.toNat 0 ≤ 16777216)
    (hinj : ∀ a ∈ ks, ∀ b ∈ ks, S2.least.getD a.toNat 0 = S2.least.getD b.toNat 0 → a = b) (h3 : rootsF k S2.least S2.size (out, S2.tops) (sortBy S2.least ks) = some (out', tops')) :
    Calls Tryd.prog 33 #[.pointer (some ⟨p.fb, 0, none⟩), gv, .int .i64 k, vsv, ov] w (LevelPost p n w rows ov { S2 with tops := tops' } out') := by
  obtain ⟨A, c, rfl, hc, hm⟩ := hvs.slice
  have bw : Below w.heap.size w (w.alloc (.cells #[.pointer (some ⟨p.fb, 0, none⟩)] 66)) := (Below.refl _ _).alloc (Nat.le_refl _) _
  have hlv0 := Lv.of_below hF hB bw
  have HG := Aside.mk (hlv0.graph hG)
  have HV := Aside.mk (hlv0.sl hvs)
  have HO := Aside.mk (show (w.alloc (.cells #[.pointer (some ⟨p.fb, 0, none⟩)] 66)).ownsRow p.B 27 4 ov out.length (nodeCells out) from ho.alloc _)
  have HX := Aside.mk (heap_alloc_new w (.cells #[.pointer (some ⟨p.fb, 0, none⟩)] 66))
  have HXf : Aside (¬ foot p rows w.heap.size) := ⟨fun hq => Nat.lt_irrefl _ (hF.foot_lt hB hq)⟩
  have HL0 := Aside.mk (Lv.refl hlv0.st)
  have HB1 : Aside (p.B ≤ (w.alloc (.cells #[.pointer (some ⟨p.fb, 0, none⟩)] 66)).heap.size) := ⟨by simp; omega⟩
  have HLW := Aside.mk hlv0
  have HOx : Aside (∀ q, ov.ownBlock = some q → q < w.heap.size) := ⟨fun q e => (ho.lt q e).2⟩
  have HBW : Aside (p.B ≤ w.heap.size) := ⟨hB⟩
  have H1 := Aside.mk h1
  clear hF hB hG hvs ho bw hlv0 h1
  go_enter Tryd.func33, Tryd.ntmps33
  go_wp2
  generalize hw1 : w.alloc (.cells #[.pointer (some ⟨p.fb, 0, none⟩)] 66) = w1 at *
  clear hw1
  obtain ⟨xb, hxb⟩ : ∃ xb, xb = w.heap.size := ⟨_, rfl⟩
  rw [← hxb] at HX HXf ⊢
  have HXB := Aside.mk hxb
  clear hxb
  go_loopg [26] vs.length (fun kq ix wr => ∃ (i : Nat) (Si : UF) (ri : List Value), Aside (i + kq = vs.length) ∧ ix = .int .i64 i ∧ Aside (takeF K adj Si (vs.drop i) = some S1) ∧ Aside (Lv p n w1 rows wr Si ri))
  case atStart => exact ⟨0, S, rows, ⟨by omega⟩, rfl, ⟨by simpa using H1.out⟩, HL0⟩
  case round =>
    clear H1 HL0
    obtain ⟨i, Si, ri, HI, rfl, HT, HL⟩ := hrel
    by_cases hi : i < vs.length
    · obtain ⟨b, o, e, cv⟩ := (HL.out.sl HV.out).int i hi
      cases e
      obtain ⟨hv0, hv1⟩ := hvr _ (List.getElem_mem hi)
      have ht := HT.out
      rw [List.drop_eq_getElem_cons hi] at ht
      generalize vs[i] = x at *
      obtain ⟨v, rfl⟩ := Int.eq_ofNat_of_zero_le hv0
      have hvn : v < n := by omega
      simp only [takeF, List.foldlM_cons, Int.toNat_natCast] at ht
      obtain ⟨Sj, hj, ht⟩ := Option.bind_eq_some_iff.1 ht
      have HT2 : Aside (takeF K adj Sj (vs.drop (i + 1)) = some S1) := ⟨ht⟩
      have cx : wr.cell? ⟨xb, 0, none⟩ = some (.pointer (some ⟨p.fb, 0, none⟩)) := cell_blk (HL.out.blk HX.out HXf.out) rfl
      have hal1 : v < adj.length := by omega
      have hadv : adj.getD v [] = adj[v] := by rw [List.getD_eq_getElem?_getD, List.getElem?_eq_getElem hal1]; rfl
      rw [hadv] at hj
      have HJ := Aside.mk hj
      obtain ⟨hlen, hmem⟩ := hadj _ (List.getElem_mem hal1)
      have hcon := enter_any HL.out.st hvn
      clear ht hj hadv HT
      go_wp2_with fail
      refine hcon.mono ?_
      clear hcon
      rintro e w2 ⟨rfl, hF2, hO2⟩
      have hB2 : p.B ≤ w2.heap.size := by have := HB1.out; have := HL.out.only.size; have := hO2.size; omega
      have hL2 : Lv p n w1 rows w2 (enterF Si v) ri := HL.out.trans ⟨hF2, hO2.mono fun q _ hq => by rcases hq with h | h | h <;> simp [foot, h], RowsFrom.refl _ _⟩
      have hcon := Neighbours_any (hL2.graph HG.out) hvn hal (by omega)
      have HL2 := Aside.mk hL2
      have HB2 := Aside.mk hB2
      clear hL2 hF2 hO2 HL hB2
      go_wp2_with fail
      refine hcon.mono ?_
      clear hcon
      rintro e w3 ⟨nv, rfl, hown, hb3⟩
      have hL3 : Lv p n w2 ri w3 (enterF Si v) ri := Lv.of_below HL2.out.st HB2.out hb3
      have HN : Aside (Sl kint w3 (fun q => ¬ foot p ri q) nv adj[v]) := ⟨hown.sl.mono fun q hq hf => by
        have := HL2.out.st.foot_lt HB2.out hf
        omega⟩
      have HB3 : Aside (p.B ≤ w3.heap.size) := ⟨by have := HB2.out; have := hb3.size; omega⟩
      have HL3 := Aside.mk (HL2.out.trans hL3)
      obtain ⟨A2, c2, rfl, hc2, hm2⟩ := HN.out.slice
      have cx3 : w3.cell? ⟨xb, 0, none⟩ = some (.pointer (some ⟨p.fb, 0, none⟩)) := bcell hb3 (by exact cell_blk (HL2.out.blk HX.out HXf.out) rfl)
      clear hown hb3 hL3 HL2 HB2 cx cv
      go_wp2_with fail
      have HX3 := Aside.mk (HL3.out.blk HX.out HXf.out)
      have HXf3 := Aside.mk (HL3.out.off HXf.out (blk_lt HX.out))
      have HL3i : Aside (Lv p n w3 ri w3 (enterF Si v) ri) := ⟨Lv.refl HL3.out.st⟩
      obtain ⟨ng, hng⟩ : ∃ ng, ng = gk := ⟨_, rfl⟩
      rw [← hng] at HI
      have HG2 := Aside.mk hng
      clear hng
      go_loopg [37] adj[v].length (fun kq jx wq => ∃ (j : Nat) (Sq : UF) (rq : List Value), Aside (j + kq = adj[v].length) ∧ jx = .int .i64 j ∧ Aside (joinF K v Sq (adj[v].drop j) = some Sj) ∧ Aside (Lv p n w3 ri wq Sq rq))
      case atStart => exact ⟨0, _, ri, ⟨by omega⟩, rfl, ⟨by simpa using HJ.out⟩, HL3i⟩
      case round =>
        clear HJ HL3i
        obtain ⟨j, Sq, rq, HI2, rfl, HT3, HL4⟩ := hrel
        by_cases hj : j < adj[v].length
        · obtain ⟨b2, o2, e, cu⟩ := (HL4.out.sl HN.out).int j hj
          cases e
          obtain ⟨hu0, hu1⟩ := hmem _ (List.getElem_mem hj)
          have ht := HT3.out
          rw [List.drop_eq_getElem_cons hj] at ht
          generalize adj[v][j] = x at *
          obtain ⟨u, rfl⟩ := Int.eq_ofNat_of_zero_le hu0
          have hun : u < n := by omega
          simp only [joinF, List.foldlM_cons, Int.toNat_natCast] at ht
          obtain ⟨Sr, hr, ht⟩ := Option.bind_eq_some_iff.1 ht
          have HT4 : Aside (joinF K v Sr (adj[v].drop (j + 1)) = some Sj) := ⟨ht⟩
          have cx4 : wr.cell? ⟨xb, 0, none⟩ = some (.pointer (some ⟨p.fb, 0, none⟩)) := cell_blk (HL4.out.blk HX3.out HXf3.out) rfl
          have c04 : wr.cell? ⟨p.fb, 0, none⟩ = some (.slice (some ⟨p.ub, 0, none⟩) n n) := cell_blk HL4.out.st.f rfl
          obtain ⟨cup, _⟩ := blk_int HL4.out.st.u u (by rw [HL4.out.st.nu]; exact hun)
          clear ht HT3
          by_cases hup : 0 ≤ Sq.up.getD u 0
          · rw [if_pos hup] at hr
            have hcon := unite_any HL4.out.st (by have := HB3.out; have := HL4.out.only.size; omega) hr
            have hupd : decide (0 ≤ Sq.up.getD u 0) = true := decide_eq_true hup
            generalize Sq.up.getD u 0 = y at cup hupd
            clear hr hup
            go_wp2_with fail
            refine hcon.mono ?_
            clear hcon
            rintro e w5 ⟨r5, rfl, hF5, hO5, hR5⟩
            have HL5 := Aside.mk (HL4.out.trans ⟨hF5, hO5, hR5⟩)
            clear hF5 hO5 hR5
            go_wp2_with fail
            go_roundg (adj[v].length - (j + 1))
            case measure => have := HI2.out; omega
            case rel => exact ⟨j + 1, Sr, r5, ⟨by omega⟩, by go_num, HT4, HL5⟩
          · rw [if_neg hup] at hr
            cases hr
            have hupd : decide (0 ≤ Sq.up.getD u 0) = false := decide_eq_false hup
            generalize Sq.up.getD u 0 = y at cup hupd
            clear hup
            go_wp2_with fail
            go_roundg (adj[v].length - (j + 1))
            case measure => have := HI2.out; omega
            case rel => exact ⟨j + 1, Sq, rq, ⟨by omega⟩, by go_num, HT4, HL4⟩
        · have hjl : adj[v].length ≤ j := by omega
          have ht := HT3.out
          rw [List.drop_of_length_le hjl] at ht
          simp only [joinF, List.foldlM_nil] at ht
          cases ht
          have HL6 := Aside.mk (HL3.out.trans HL4.out)
          clear HL4 HL3 HT3 ht
          go_wp2
          go_roundg (vs.length - (i + 1))
          case measure => have := HI.out; have := HG2.out; omega
          case rel => exact ⟨i + 1, Sj, rq, ⟨by omega⟩, by go_num, HT2, HL6⟩
    · have hil : vs.length ≤ i := by omega
      have ht := HT.out
      rw [List.drop_of_length_le hil] at ht
      simp only [takeF, List.foldlM_nil] at ht
      cases ht
      have hdec : decide (i < vs.length) = false := by simp; omega
      have hdec2 : decide ((i : Int) < (vs.length : Int)) = false := by simp; omega
      clear HT HI hi hil
      have hmm := @run_makeMap Tryd.prog
      have hBr : p.B ≤ wr.heap.size := by have := HB1.out; have := HL.out.only.size; omega
      have HLm := Aside.mk (HL.out.trans (Lv.of_below HL.out.st hBr ((Below.refl _ wr).alloc (Nat.le_refl _) (.map #[] 0))))
      have HM0 := Aside.mk (MapIs.made (Value.int .i64) wr)
      have HBm : Aside (p.B ≤ wr.heap.size) := ⟨hBr⟩
      have HKR : Aside (∀ r ∈ ks, 0 ≤ r ∧ r < n) := ⟨partsF_lt h2 HL.out.st.nu (by simp)⟩
      have H2 := Aside.mk h2
      have HKL : Aside (ks.length ≤ 16777216) := ⟨by have := partsF_length h2; simp at this; omega⟩
      have HPf : Aside (¬ foot p ri wr.heap.size) := ⟨fun hq => Nat.lt_irrefl _ (HL.out.st.foot_lt hBr hq)⟩
      have HPn : Aside (w1.heap.size ≤ wr.heap.size) := ⟨HL.out.only.size⟩
      clear h2 hBr HL
      go_wp2
      generalize hwm : wr.alloc (.map #[] 0) = wm at *
      clear hwm
      obtain ⟨pb, hpb⟩ : ∃ pb, pb = wr.heap.size := ⟨_, rfl⟩
      rw [← hpb] at HM0 HBm HPf HPn ⊢
      clear hpb
      go_loopg [58] vs.length (fun kq ix wq => ∃ (i : Nat) (Sq : UF) (m : List (Int × Value)), Aside (i + kq = vs.length) ∧ ix = .int .i64 i ∧ Aside (partsF K (m.map (·.1), Sq) (vs.drop i) = some (ks, S2)) ∧ Aside (Lv p n w1 rows wq Sq ri) ∧
        Aside (MapIs (Value.int .i64) wq pb m) ∧ Aside (∀ q ∈ m, ∃ c : Int, q.2 = .int .i64 c))
      case atStart => exact ⟨0, _, [], ⟨by omega⟩, rfl, ⟨by simpa using H2.out⟩, HLm, HM0, ⟨by simp⟩⟩
      case round =>
        clear HLm HM0 H2
        obtain ⟨i, Sq, m, HI, rfl, HT, HL, HM, HC⟩ := hrel
        by_cases hi : i < vs.length
        · obtain ⟨b, o, e, cv⟩ := (HL.out.sl HV.out).int i hi
          cases e
          obtain ⟨hv0, hv1⟩ := hvr _ (List.getElem_mem hi)
          have ht := HT.out
          rw [List.drop_eq_getElem_cons hi] at ht
          generalize vs[i] = x at *
          obtain ⟨v, rfl⟩ := Int.eq_ofNat_of_zero_le hv0
          have hvn : v < n := by omega
          simp only [partsF, List.foldlM_cons, Int.toNat_natCast] at ht
          obtain ⟨a, ha, ht⟩ := Option.bind_eq_some_iff.1 ht
          obtain ⟨⟨up', r⟩, hf, rfl⟩ := Option.map_eq_some_iff.1 ha
          simp only at ht
          have HT2 : Aside (partsF K (addKey (m.map (·.1)) (r : Int), { Sq with up := up' }) (vs.drop (i + 1)) = some (ks, S2)) := ⟨ht⟩
          have cx : wr.cell? ⟨xb, 0, none⟩ = some (.pointer (some ⟨p.fb, 0, none⟩)) := cell_blk (HL.out.blk HX.out HXf.out) rfl
          have hcon := find_any HL.out.st hf
          clear ht ha hf HT
          go_wp2_with fail
          refine hcon.mono ?_
          clear hcon
          rintro e w2 ⟨rfl, hF2, hO2⟩
          have hm2 : MapIs (Value.int .i64) w2 pb m := HM.out.kept (hO2.block pb HM.out.lt (by have := HBm.out; have := hF2.ltB.2.1; omega))
          have hlook := map_look (key_int Tryd.underlying3) hm2 (t := 87) Tryd.underlying87 (z := .int .i64 0) (fun w => by kernel_rfl) (r : Int) false
          obtain ⟨c0, hc0⟩ := mget_int HC.out r
          simp only [hc0, Bool.false_eq_true, if_false] at hlook
          obtain ⟨w3, hput, hm3, hg3, hs3⟩ := map_put (key_int Tryd.underlying3) hm2 (t := 87) Tryd.underlying87 (r : Int) (.int .i64 (wrap64 (c0 + 1)))
          have HL2 : Aside (Lv p n w1 rows w2 { Sq with up := up' } ri) := ⟨HL.out.trans ⟨hF2, hO2.mono fun q _ hq => .inl hq, RowsFrom.refl _ _⟩⟩
          have HM3 := Aside.mk hm3
          have HG3 := Aside.mk hg3
          have HM2 := Aside.mk hm2
          have HKs : Aside ((mput m (r : Int) (.int .i64 (wrap64 (c0 + 1)))).map (·.1) = addKey (m.map (·.1)) (r : Int)) := ⟨mput_keys _ _ _⟩
          clear hm2 hF2 hO2 hm3 hg3 hs3 hc0 cx cv
          go_wp2_with fail
          go_roundg (vs.length - (i + 1))
          case measure => have := HI.out; omega
          case rel =>
            exact ⟨i + 1, _, _, ⟨by omega⟩, by go_num, ⟨by rw [HKs.out]; exact HT2.out⟩, ⟨HL2.out.grown HG3.out fun q e => by cases e; exact ⟨HPn.out, HBm.out, HPf.out⟩⟩, HM3, ⟨mput_int HC.out _ _⟩⟩
        · have hil : vs.length ≤ i := by omega
          have ht := HT.out
          rw [List.drop_of_length_le hil] at ht
          simp only [partsF, List.foldlM_nil] at ht
          cases ht
          have hdec : decide (i < vs.length) = false := by simp; omega
          have hdec2 : decide ((i : Int) < (vs.length : Int)) = false := by simp; omega
          clear HT HI hi hil hmm
          obtain ⟨w4, hrange, hgo, hb4, hs4⟩ := map_range (P := Tryd.prog) HM.out (t := 87) Tryd.underlying87
          have HGo := Aside.mk hgo
          have HB4 := Aside.mk hb4
          have HS4 := Aside.mk hs4
          clear hgo hb4 hs4
          go_wp2
          obtain ⟨it, hit⟩ : ∃ it, it = wr.heap.size := ⟨_, rfl⟩
          rw [← hit] at HGo HB4 HS4 ⊢
          have HIT := Aside.mk hit
          have HML : Aside (m.length ≤ 16777216) := ⟨by have := HKL.out; simpa using this⟩
          clear hit hrange
          obtain ⟨we, rfl⟩ : ∃ we : World, we = wr := ⟨_, rfl⟩
          have HR0 : Aside (w4.ownsRow (it + 1) 3 1 (.slice none 0 0) ([] : List (Int × Value)).length (ints (([] : List (Int × Value)).map (·.1)))) := ⟨World.ownsRow_nil _ _ _ _⟩
          go_loopg [18] m.length (fun kq rv wq => ∃ (dn left : List (Int × Value)), Aside (left.length = kq) ∧ Aside (m.Perm (dn ++ left)) ∧ Aside (Going (Value.int .i64) wq pb it m left) ∧
            Aside (wq.ownsRow (it + 1) 3 1 rv dn.length (ints (dn.map (·.1)))) ∧ Aside (Below it we wq))
          case atStart => exact ⟨[], m, ⟨rfl⟩, ⟨by simp⟩, HGo, HR0, HB4⟩
          case round =>
            clear HGo HB4 HS4 HR0
            obtain ⟨dn, left, HLe, HP, HGo, HRo, HB⟩ := hrel
            have hbe := HL.out.only.size
            rcases map_next (P := Tryd.prog) HGo.out 0 with ⟨hl, hnx⟩ | ⟨x, z, left', w5, hpm, hnx, hgo5, hg5, hs5, hen⟩
            · subst hl
              have hpm : (dn.map (·.1)).Perm (m.map (·.1)) := by have := HP.out; simp at this; exact (this.map _).symm
              have hbw : Below we.heap.size we wr := by have := HB.out; rw [HIT.out] at this; exact this
              have hlv := HL.out.trans (Lv.of_below HL.out.st (by have := HB1.out; omega) hbw)
              have hbe1 := HB1.out
              have hite := HIT.out
              have hro : wr.ownsRow (it + 1) 3 1 u18 (dn.map (·.1)).length (ints (dn.map (·.1))) := by simpa using HRo.out
              have hinj2 : ∀ a ∈ dn.map (·.1), ∀ b ∈ dn.map (·.1), S2.least.getD a.toNat 0 = S2.least.getD b.toNat 0 → a = b := fun a ha b hb => hinj a (hpm.mem_iff.1 ha) b (hpm.mem_iff.1 hb)
              have hxw := blk_lt HX.out
              have hcon := roots_sort (hlv.blk HX.out HXf.out) hlv.st.f rfl hlv.st.l hlv.st.nl (fun r hr => HKR.out r (hpm.mem_iff.1 hr)) (fun r hr => hlb r (hpm.mem_iff.1 hr)) hinj2 hro
                (fun k e => by have h1 := (hro.lt k e).1; have h2 := hlv.st.ltB; exact ⟨by omega, by omega, by omega⟩) (by have h1 := hpm.length_eq; have h2 := HML.out; rw [h1]; simp; omega)
              rw [sortBy_perm hpm hinj2] at hcon
              have hlen : (sortBy S2.least (m.map (·.1))).length ≤ 16777216 := by rw [sortBy_length]; simpa using HML.out
              have hLr : ∀ r ∈ sortBy S2.least (m.map (·.1)), 0 ≤ r ∧ r < n := fun r hr => HKR.out r ((List.mergeSort_perm _ _).mem_iff.1 hr)
              generalize sortBy S2.least (m.map (·.1)) = Ls at hcon h3 hlen hLr
              have HRow : Aside (∀ q, u18.ownBlock = some q → it + 1 ≤ q) := ⟨fun q e => (hro.lt q e).1⟩
              have HLv := Aside.mk hlv
              have HWE : Aside (w1.heap.size ≤ it) := ⟨by omega⟩
              have HFL : Aside (∀ q, foot p ri q → q < it) := ⟨fun q hq => by rw [hite]; exact HL.out.st.foot_lt (by omega) hq⟩
              have H3 := Aside.mk h3
              clear hpm hbw hlv hro hinj2 hinj hlb h3 HRo HB HL HGo HP HLe HM HKR HKL hbe hbe1 hite hxw
              go_wp2_with fail
              refine hcon.mono ?_
              clear hcon
              rintro e w7 ⟨rfl, hr7, hg7⟩
              have hite := HIT.out
              have hbe := HB1.out
              have hxw := blk_lt HX.out
              have hfl := HFL.out
              have hwe := HWE.out
              have hl7 : Lv p n w1 rows w7 S2 ri := HLv.out.grown hg7 fun q e => by have := HRow.out q e; exact ⟨by omega, by omega, fun hf => by have := hfl q hf; omega⟩
              have HS7 : Aside (OutSt p n w7 ri ov w7 S2 ri ov out) := ⟨⟨hl7.st, by have := hl7.only.size; omega, Only.refl _ _, RowsFrom.refl _ _, ownsRow_move HO.out fun q e => hl7.only.block q (HO.out.lt q e).2 (hon q e), fun q e => hl7.off (hon q e) (HO.out.lt q e).2, fun q e => .inl e⟩⟩
              have HR7 : Aside (Sl kint w7 (it + 1 ≤ ·) u18 Ls) := ⟨(own_ints hr7).sl⟩
              have HX7 := Aside.mk (hl7.blk HX.out HXf.out)
              have HN7 : Aside (∀ q, it + 1 ≤ q ∨ q = xb → ¬ foot p ri q ∧ ov.ownBlock ≠ some q) := ⟨fun q hq => by
                rcases hq with hq | rfl
                · exact ⟨fun hf => by have := hfl q hf; omega, fun e => by have := (HO.out.lt q e).2; omega⟩
                · exact ⟨hl7.off HXf.out hxw, fun e => by have := HOx.out q e; have := HXB.out; omega⟩⟩
              have HK7 : Aside (Lv p n w rows w7 S2 ri) := ⟨HLW.out.trans hl7⟩
              obtain ⟨A7, c7, rfl, hc7, hm7⟩ := HR7.out.slice
              clear hr7 hg7 hl7 hfl HLv HRow HLW HO HX HXf HV HG hite hbe hxw hwe HFL HWE
              go_wp2
              go_loopg [4, 84] Ls.length (fun kq v4 ix wr => ∃ (i : Nat) (oi : List Node) (ti : List (List Int)) (rq : List Value), Aside (i + kq = Ls.length) ∧ ix = .int .i64 i ∧ Aside (rootsF k S2.least S2.size (oi, ti) (Ls.drop i) = some (out', tops')) ∧
                Aside (OutSt p n w7 ri ov wr { S2 with tops := ti } rq v4 oi))
              case atStart => exact ⟨0, out, S2.tops, ri, ⟨by omega⟩, rfl, ⟨by simpa using H3.out⟩, HS7⟩
              case round =>
                clear H3 HS7
                obtain ⟨i, oi, ti, rq, HI, rfl, HT, HO⟩ := hrel
                by_cases hi : i < Ls.length
                · have HR8 := (HR7.out.step fun q hq hlt => HO.out.only.block q hlt fun hf => hf.elim (HN7.out q (.inl hq)).1 (HN7.out q (.inl hq)).2)
                  obtain ⟨b, o, e, cv⟩ := HR8.int i hi
                  cases e
                  obtain ⟨hv0, hv1⟩ := hLr _ (List.getElem_mem hi)
                  have ht := HT.out
                  rw [List.drop_eq_getElem_cons hi] at ht
                  generalize Ls[i] = x at *
                  obtain ⟨r, rfl⟩ := Int.eq_ofNat_of_zero_le hv0
                  have hrn : r < n := by omega
                  simp only [rootsF, List.foldlM_cons] at ht
                  obtain ⟨⟨on, tn⟩, ha, ht⟩ := Option.bind_eq_some_iff.1 ht
                  simp only [rootF, Int.toNat_natCast] at ha
                  obtain ⟨o2, ha2, hb⟩ := Option.bind_eq_some_iff.1 ha
                  have ho2 := topsF_length ha2
                  have hlt2 : o2.length < 16777216 := by
                    by_cases h : o2.length < 16777216
                    · exact h
                    · rw [if_neg h] at hb; cases hb
                  rw [if_pos hlt2] at hb
                  cases hb
                  have HT2 : Aside (rootsF k S2.least S2.size (o2 ++ [⟨k, S2.least.getD r 0, S2.size.getD r 0, -1⟩], ti.set r [(o2.length : Int)]) (Ls.drop (i + 1)) = some (out', tops')) := ⟨ht⟩
                  have HX8 : Aside (wr.heap[xb]? = some _) := ⟨(HO.out.only.block xb (blk_lt HX7.out) fun hf => hf.elim (HN7.out xb (.inr rfl)).1 (HN7.out xb (.inr rfl)).2).trans HX7.out⟩
                  have cx : wr.cell? ⟨xb, 0, none⟩ = some (.pointer (some ⟨p.fb, 0, none⟩)) := cell_blk HX8.out rfl
                  have c3 : wr.cell? ⟨p.fb, 3, none⟩ = some (.slice (some ⟨p.tb, 0, none⟩) n n) := cell_blk HO.out.st.f rfl
                  have hrt : r < ti.length := by have := HO.out.st.nt; simp at this; omega
                  obtain ⟨v, hv, hc, hf, hrow⟩ := HO.out.st.rows.at r hrt
                  have htr : ti.getD r [] = ti[r] := by rw [List.getD_eq_getElem?_getD, List.getElem?_eq_getElem hrt]; rfl
                  rw [htr] at ha2
                  simp only at hrow
                  obtain ⟨A2, c2, rfl, hc2, hm2⟩ := (own_ints hrow).sl.slice
                  obtain ⟨A4, c4, rfl⟩ := HO.out.slice
                  have HA := Aside.mk ha2
                  clear ht ha2 HT HR8 htr hf hrow
                  go_wp2_with fail
                  obtain ⟨ng, hng⟩ : ∃ ng, ng = gk := ⟨_, rfl⟩
                  rw [← hng] at HI
                  have HG2 := Aside.mk hng
                  clear hng cv cx c3 hc
                  go_loopg [96] ti[r].length (fun kq jx wq => ∃ (j : Nat) (oq : List Node), Aside (j + kq = ti[r].length) ∧ jx = .int .i64 j ∧ Aside (oq.length = oi.length) ∧ Aside (topsF oq (ti[r].drop j) = some o2) ∧
                    Aside (OutSt p n w7 ri ov wq { S2 with tops := ti } rq (.slice A4 oi.length c4) oq))
                  case atStart => exact ⟨0, oi, ⟨by omega⟩, rfl, ⟨rfl⟩, ⟨by simpa using HA.out⟩, HO⟩
                  case round =>
                    clear HO HA
                    obtain ⟨j, oq, HI2, rfl, HL2, HT3, HO⟩ := hrel
                    by_cases hj : j < ti[r].length
                    · have hrow := HO.out.st.rows.own r _ _ hv (List.getElem?_eq_getElem hrt)
                      obtain ⟨b2, o2', e, cj⟩ := (own_ints hrow).sl.int j hj
                      cases e
                      have ht := HT3.out
                      rw [List.drop_eq_getElem_cons hj] at ht
                      generalize ti[r][j] = y at *
                      simp only [topsF, List.foldlM_cons] at ht
                      obtain ⟨o3, ha, ht⟩ := Option.bind_eq_some_iff.1 ht
                      have hy : 0 ≤ y ∧ y.toNat < oq.length := by
                        by_cases h : 0 ≤ y ∧ y.toNat < oq.length
                        · exact h
                        · rw [if_neg h] at ha; cases ha
                      rw [if_pos hy] at ha
                      cases ha
                      obtain ⟨u, rfl⟩ := Int.eq_ofNat_of_zero_le hy.1
                      obtain ⟨g, cap, e, hfz, ⟨z, hz⟩, hO⟩ := HO.out.parent (i := u) (by simpa using hy.2) (oq.length : Int)
                      have hl2 := HL2.out
                      rw [hl2] at hO ht
                      simp only [Value.slice.injEq] at e
                      obtain ⟨rfl, hxx, rfl⟩ := e
                      clear hxx
                      have hub : u < oi.length := by have := hy.2; simp at this; omega
                      have HO3 := Aside.mk hO
                      have HT4 : Aside (topsF (oq.modify u fun x => { x with Parent := (oi.length : Int) }) (ti[r].drop (j + 1)) = some o2) := ⟨ht⟩
                      clear ht hO hl2 HT3 HO hrow hy
                      go_wp2_with fail
                      go_roundg (ti[r].length - (j + 1))
                      case measure => have := HI2.out; omega
                      case rel => exact ⟨j + 1, _, ⟨by omega⟩, by go_num, ⟨by rw [List.length_modify]; exact HL2.out⟩, HT4, HO3⟩
                    · have hjl : ti[r].length ≤ j := by omega
                      have ht := HT3.out
                      rw [List.drop_of_length_le hjl] at ht
                      simp only [topsF, List.foldlM_nil] at ht
                      cases ht
                      have hdec : decide (j < ti[r].length) = false := by simp; omega
                      have hdec2 : decide ((j : Int) < (ti[r].length : Int)) = false := by simp; omega
                      clear HT3 hj hjl HI2
                      have HX8 : Aside (wr.heap[xb]? = some _) := ⟨(HO.out.only.block xb (blk_lt HX7.out) fun hf => hf.elim (HN7.out xb (.inr rfl)).1 (HN7.out xb (.inr rfl)).2).trans HX7.out⟩
                      have cx : wr.cell? ⟨xb, 0, none⟩ = some (.pointer (some ⟨p.fb, 0, none⟩)) := cell_blk HX8.out rfl
                      have c3 : wr.cell? ⟨p.fb, 3, none⟩ = some (.slice (some ⟨p.tb, 0, none⟩) n n) := cell_blk HO.out.st.f rfl
                      obtain ⟨⟨z, hz⟩, hfz, hO⟩ := HO.out.tops hrn (o2.length : Int)
                      rw [HL2.out] at hz hfz hO
                      have HO4 := Aside.mk hO
                      clear hO HO
                      go_wp2_with fail
                      clear hz hfz cx c3 hdec hdec2 HX8
                      generalize (wr.alloc (.cells #[.int .i64 (oi.length : Int)] 3)).setCell ⟨p.tb, r, none⟩ (.slice (some ⟨wr.heap.size, 0, none⟩) 1 1) = W3 at HO4 ⊢
                      have HX8 : Aside (W3.heap[xb]? = some _) := ⟨(HO4.out.only.block xb (blk_lt HX7.out) fun hf => hf.elim (HN7.out xb (.inr rfl)).1 (HN7.out xb (.inr rfl)).2).trans HX7.out⟩
                      have cx : W3.cell? ⟨xb, 0, none⟩ = some (.pointer (some ⟨p.fb, 0, none⟩)) := cell_blk HX8.out rfl
                      have c1 : W3.cell? ⟨p.fb, 1, none⟩ = some (.slice (some ⟨p.lb, 0, none⟩) n n) := cell_blk HO4.out.st.f rfl
                      have c2 : W3.cell? ⟨p.fb, 2, none⟩ = some (.slice (some ⟨p.sb, 0, none⟩) n n) := cell_blk HO4.out.st.f rfl
                      obtain ⟨clx, _⟩ := blk_int HO4.out.st.l r (by rw [HO4.out.st.nl]; exact hrn)
                      obtain ⟨csx, _⟩ := blk_int HO4.out.st.s r (by rw [HO4.out.st.ns]; exact hrn)
                      have HT3 := Aside.mk HT2.out
                      clear HT2
                      rw [HL2.out] at HT3
                      simp only at clx csx
                      generalize S2.least.getD r 0 = lx at clx HT3
                      generalize S2.size.getD r 0 = sx at csx HT3
                      obtain ⟨v1, W4, hrun, hO5, ⟨A5, n5, c5, rfl⟩, _⟩ := HO4.out.app ⟨k, lx, sx, -1⟩ (by omega)
                      dsimp only at hrun
                      have HREL : Aside (∃ (i' : Nat) (oi' : List Node) (ti' : List (List Int)) (rq' : List Value), Aside (i' + (Ls.length - (i + 1)) = Ls.length) ∧ Value.int .i64 (i + 1 : Int) = .int .i64 i' ∧ Aside (rootsF k S2.least S2.size (oi', ti') (Ls.drop i') = some (out', tops')) ∧
                        Aside (OutSt p n w7 ri ov W4 { S2 with tops := ti' } rq' (.slice A5 n5 c5) oi')) := ⟨i + 1, _, _, _, ⟨by omega⟩, by go_num, HT3, ⟨hO5⟩⟩
                      have hms : Ls.length - (i + 1) < ng := by have := HI.out; omega
                      have hng := HG2.out
                      clear hO5 HX8 HT3 HO4 HI HG2
                      go_region
                      go_wp2
                      go_roundg (Ls.length - (i + 1))
                      case measure => exact hng ▸ hms
                      case rel => exact HREL.out
                · have hil : Ls.length ≤ i := by omega
                  have ht := HT.out
                  rw [List.drop_of_length_le hil] at ht
                  simp only [rootsF, List.foldlM_nil] at ht
                  cases ht
                  have hdec : decide (i < Ls.length) = false := by simp; omega
                  have hdec2 : decide ((i : Int) < (Ls.length : Int)) = false := by simp; omega
                  obtain ⟨A4, c4, rfl⟩ := HO.out.slice
                  have HPOST : Aside (LevelPost p n w rows ov { S2 with tops := tops' } out' (.returned (.slice A4 out'.length c4)) wr) := by
                    have h1 := HK7.out.only
                    have h2 := HO.out.only
                    refine ⟨rq, _, rfl, HO.out.st, ⟨h2.os.trans h1.os, h2.tape.trans h1.tape, h2.output.trans h1.output, Nat.le_trans h1.size h2.size, fun q hq hf => ?_⟩, HK7.out.fr.trans HO.out.fr h1.size, HO.out.own, HO.out.apart, fun q e => (HO.out.old q e).imp id fun h => Nat.le_trans h1.size h⟩
                    exact (h2.block q (Nat.lt_of_lt_of_le hq h1.size) fun h => h.elim (HK7.out.off (fun h => hf (.inl h)) hq) fun h => hf (.inr h)).trans (h1.block q hq fun h => hf (.inl h))
                  clear HT HI hi hil HO HK7 HN7 HX7 HR7 hLr hlen
                  go_wp2
                  go_ret
                  exact HPOST.out
            · have HLen : Aside (dn.length + 1 ≤ 16777216) := ⟨by have h1 := HP.out.length_eq; have h2 := hpm.length_eq; have := HML.out; simp at h1 h2; omega⟩
              have hR5 : w5.ownsRow (it + 1) 3 1 u18 dn.length (ints (dn.map (·.1))) := ownsRow_move HRo.out fun q e => hg5.block q (HRo.out.lt q e).2 (by have := (HRo.out.lt q e).1; simp; omega)
              have hB5 : Below it we w5 := HB.out.grown hg5 (by have := HGo.out.lt.2; omega) (fun q e => by cases e; exact Nat.le_refl _)
              have hlt5 := hgo5.lt
              have HGo5 := Aside.mk hgo5
              have HPm := Aside.mk hpm
              have HR5 := Aside.mk hR5
              have HB5 := Aside.mk hB5
              have hit5 : it + 1 ≤ w5.heap.size := by omega
              clear hgo5 hg5 hs5 hpm hR5 hB5 HGo HRo HB hbe hlt5
              go_wp2_with (at_builtin; go_must (refine app_one (it + 1) rfl _ _ 48 3 (.int .i64 0) 1 8 rfl Tryd.underlying48 Tryd.info3 rfl (by decide) (by decide) u18 dn.length _ [.int .i64 x] rfl rfl rfl (by simp [Value.oneCell']) HR5.out hit5 (by have := HLen.out; omega) ?_; intro v1 w6 hown hg6 hat))
              have hlm : pb < it := by have := HM.out.lt; have := HIT.out; omega
              have hfar : ∀ k, k ≤ it → u18.ownBlock ≠ some k := fun k hk e => by have := (HR5.out.lt k e).1; omega
              have HGo6 : Aside (Going (Value.int .i64) w6 pb it m left') := ⟨HGo5.out.kept (hg6.block pb (by omega) (Ne.symm (hfar pb (by omega)))) (hg6.block it (by omega) (Ne.symm (hfar it (Nat.le_refl _))))⟩
              have HB6 : Aside (Below it we w6) := ⟨HB5.out.grown hg6 (by omega) fun q e => by have := (HR5.out.lt q e).1; omega⟩
              have HR6 : Aside (w6.ownsRow (it + 1) 3 1 v1 (dn ++ [(x, z)]).length (ints ((dn ++ [(x, z)]).map (·.1)))) := ⟨by simpa [ints] using hown⟩
              clear hown hg6 hat hlm hfar
              go_roundg left'.length
              case measure => have h1 := HLe.out; have h2 := HPm.out.length_eq; simp at h2; omega
              case rel => exact ⟨dn ++ [(x, z)], left', ⟨rfl⟩, ⟨(HP.out.trans (HPm.out.append_left dn)).trans (by simp)⟩, HGo6, HR6, HB6⟩
end Go.Proofs.YtikgdhmnnnicmaaDoor
