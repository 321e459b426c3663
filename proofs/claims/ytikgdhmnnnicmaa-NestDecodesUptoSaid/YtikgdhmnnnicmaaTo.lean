/- pithfix.To walked: the lists of neighbours of pairs among n vertices. No condition. -/
import Derived.Test.Ytikgdhmnnnicmaa9
namespace Go.Proofs.Ytikgdhmnnnicmaa
open Go.RowKit
theorem ints_snoc' (xs : List Int) (x : Int) : ints (xs ++ [x]) = ints xs ++ [.int .i64 x] := by simp [ints]
def rowT (bss : List (List Bool)) (a u : Nat) : List Int := ((List.range u).filter fun x => (bss.getD a []).getD x false).map fun x : Nat => (x : Int)
def partT (n : Nat) (bss : List (List Bool)) (v u : Nat) : List (List Int) := (List.range n).map fun a => if a < v then rowT bss a (bss.getD a []).length else if a = v then rowT bss a u else []
theorem partT_length {n : Nat} {bss : List (List Bool)} {v u : Nat} : (partT n bss v u).length = n := by simp [partT]
theorem partT_at {n : Nat} {bss : List (List Bool)} {v u a : Nat} (h : a < (partT n bss v u).length) : (partT n bss v u)[a] = if a < v then rowT bss a (bss.getD a []).length else if a = v then rowT bss a u else [] := by simp [partT]
theorem partT_set {n : Nat} {bss : List (List Bool)} {v u : Nat} : (partT n bss v u).set v (rowT bss v (u + 1)) = partT n bss v (u + 1) := by
  refine List.ext_getElem (by simp [partT]) fun j h1 h2 => ?_
  rw [partT_at]
  by_cases e : v = j
  · subst e
    rw [List.getElem_set_self]
    simp
  · rw [List.getElem_set_ne e, partT_at]
    simp [Ne.symm e]
theorem partT_next {n : Nat} {bss : List (List Bool)} {v : Nat} : partT n bss v (bss.getD v []).length = partT n bss (v + 1) 0 := by
  refine List.ext_getElem (by simp [partT]) fun j h1 h2 => ?_
  rw [partT_at, partT_at]
  rcases Nat.lt_trichotomy j v with q | q | q
  · rw [if_pos q, if_pos (by omega)]
  · subst q
    rw [if_neg (by omega), if_pos rfl, if_pos (by omega)]
  · rw [if_neg (by omega), if_neg (by omega), if_neg (by omega)]
    split
    · simp [rowT]
    · rfl
theorem partT_zero {n : Nat} {bss : List (List Bool)} : partT n bss 0 0 = List.replicate n [] := by
  refine List.ext_getElem (by simp [partT]) fun j h1 h2 => ?_
  rw [partT_at, List.getElem_replicate, if_neg (by omega)]
  split
  · simp [rowT]
  · rfl
theorem partT_all {n : Nat} {bss : List (List Bool)} : partT n bss n 0 = toS n bss := by
  unfold partT toS
  refine List.map_congr_left fun a ha => ?_
  rw [if_pos (List.mem_range.1 ha)]
  rfl
theorem rowT_yes {bss : List (List Bool)} {a u : Nat} (h : (bss.getD a []).getD u false = true) : rowT bss a (u + 1) = rowT bss a u ++ [(u : Int)] := by
  unfold rowT
  rw [List.range_succ, List.filter_append, List.map_append]
  simp only [List.filter_cons, List.filter_nil, h, if_true]
  rfl
theorem rowT_no {bss : List (List Bool)} {a u : Nat} (h : (bss.getD a []).getD u false = false) : rowT bss a (u + 1) = rowT bss a u := by
  unfold rowT
  rw [List.range_succ, List.filter_append, List.map_append]
  simp only [List.filter_cons, List.filter_nil, h]
  simp
theorem rowT_length {bss : List (List Bool)} {a u : Nat} : (rowT bss a u).length ≤ u := by
  unfold rowT
  rw [List.length_map]
  exact Nat.le_trans (List.length_filter_le _ _) (by simp)
theorem partT_no {n : Nat} {bss : List (List Bool)} {v u : Nat} (h : (bss.getD v []).getD u false = false) : partT n bss v (u + 1) = partT n bss v u := by
  refine List.ext_getElem (by simp [partT]) fun j h1 h2 => ?_
  rw [partT_at, partT_at]
  by_cases e : j = v
  · subst e
    rw [rowT_no h]
  · simp only [e, if_false]
def ToPost (w : World) (adj : List (List Int)) (e : Ending) (w' : World) : Prop := ∃ v, e = .returned v ∧ Sl (kslice kint) w' (w.heap.size ≤ ·) v adj ∧ Below w.heap.size w w'
/-- One neighbour appended to a row and stored. -/
theorem To_step {w w1 W w6 : World} {tr a u : Nat} {rows : List Value} {xss : List (List Int)} {v0 v1 : Value} {hal : a < xss.length} (hR : Rows W (tr + 1) tr rows xss) (hv0 : rows[a]? = some v0) (hK : ∀ k, k < tr → W.heap[k]? = w1.heap[k]?) (hB : Below w.heap.size w W) (hz : w.heap.size ≤ tr)
    (hov : W.ownsRow (tr + 1) 3 1 v0 xss[a].length (ints xss[a])) (hsz : tr + 1 ≤ W.heap.size) (hown : w6.ownsRow (tr + 1) 3 1 v1 (xss[a].length + 1) (ints xss[a] ++ [.int .i64 (u : Int)])) (hg : W.grownBy w6 v0.ownBlock) (hat : v1.ownBlock = v0.ownBlock ∨ v1.ownBlock = some (W.heap.size + 1))
    (hc : W.cell? ⟨tr, a, none⟩ = some v0) (hf : W.frozen? ⟨tr, a, none⟩ = false) :
    w6.cell? ⟨tr, a, none⟩ = some v0 ∧ w6.frozen? ⟨tr, a, none⟩ = false ∧ ∃ A n c, v1 = .slice A n c ∧ Rows (w6.setCell ⟨tr, a, none⟩ v1) (tr + 1) tr (rows.set a v1) (xss.set a (xss[a] ++ [(u : Int)])) ∧ (∀ k, k < tr → (w6.setCell ⟨tr, a, none⟩ v1).heap[k]? = w1.heap[k]?) ∧ Below w.heap.size w (w6.setCell ⟨tr, a, none⟩ v1) ∧ tr + 1 ≤ (w6.setCell ⟨tr, a, none⟩ v1).heap.size := by
  have hlow : ∀ k, k < tr + 1 → w6.heap[k]? = W.heap[k]? := fun k hk => hg.block k (by omega) fun e => by have := (hov.lt k e.symm).1; omega
  have ht := hlow tr (by omega)
  refine ⟨(World.cell?_of_block ht).trans hc, (World.frozen?_of_block ht).trans hf, ?_⟩
  have hv1 : ∃ A m c, v1 = .slice A m c := by
    rcases hown.2 with ⟨rfl, _⟩ | ⟨g, cap, cur, rfl, _⟩
    · exact ⟨_, _, _, rfl⟩
    · exact ⟨_, _, _, rfl⟩
  obtain ⟨A, m, c, rfl⟩ := hv1
  have hgs := hg.size
  refine ⟨A, m, c, rfl, hR.set hv0 (ys := xss[a] ++ [(u : Int)]) (by rw [ints_snoc', List.length_append]; exact hown) ht (fun k _ hk hne => hg.block k hk hne) fun k hk => ?_, fun k hk => ?_, ?_, ?_⟩
  · rcases hat with h | h
    · exact .inl (h ▸ hk)
    · rw [h] at hk
      have : W.heap.size + 1 = k := by simpa using hk
      exact .inr (by omega)
  · exact (Below.heap_setCell w6 ⟨tr, a, none⟩ _ k (by show k ≠ tr; omega)).trans ((hlow k (by omega)).trans (hK k hk))
  · exact (hB.grown hg hB.size fun k e => by have := (hov.lt k e).1; omega).setCell (by show w.heap.size ≤ tr; omega) _
  · simp; omega
set_option maxHeartbeats 4000000 in
set_option maxRecDepth 100000 in
theorem To_any {w : World} {ok : Nat → Prop} {v : Value} {ps : List Pair} {n : Nat} (hs : Sl kpair w ok v ps) (hn : n ≤ 16777216) (ha : among n ps) : Calls Try.prog 42 #[.int .i64 n, v] w (ToPost w (toS n (marksP n ps))) := by
  obtain ⟨A, c, rfl, hc, hm⟩ := hs.slice
  have hmarks := marks_any hs hn ha
  have hmk := run_make_row' (P := Try.prog) 26 23 (.slice none 0 0) 24 Try.underlying26 Try.info23 rfl .i64 .i64 n (by omega) (by omega)
  have HN := Aside.mk hn
  clear hs hn
  go_enter Try.func42, Try.ntmps42
  go_wp2_with fail
  refine hmarks.mono ?_
  clear hmarks
  rintro e w1 ⟨tb, gs, rfl, htb, hBR, hB1⟩
  go_wp2
  have hR0 : Rows (w1.alloc (.cells (madeCells #[.slice none 0 0] n) 23)) (w1.heap.size + 1) w1.heap.size (List.replicate n (.slice none 0 0)) (partT n (marksP n ps) 0 0) := by
    rw [partT_zero]; exact rows_made w1 _ n (Nat.lt_succ_self _)
  have hK0 : ∀ k, k < w1.heap.size → (w1.alloc (.cells (madeCells #[.slice none 0 0] n) 23)).heap[k]? = w1.heap[k]? := fun k hk => Below.heap_alloc w1 _ k hk
  have hB0 : Below w.heap.size w (w1.alloc (.cells (madeCells #[.slice none 0 0] n) 23)) := hB1.alloc hB1.size _
  have hZ0 : w1.heap.size + 1 ≤ (w1.alloc (.cells (madeCells #[.slice none 0 0] n) 23)).heap.size := by simp
  have HZ1 := Aside.mk hB1.size
  have HBR := Aside.mk hBR
  generalize w1.alloc (.cells (madeCells #[.slice none 0 0] n) 23) = w2 at *
  have HR0 := Aside.mk hR0
  have HK0 := Aside.mk hK0
  have HB0 := Aside.mk hB0
  have HZ0 := Aside.mk hZ0
  generalize marksP n ps = bss at *
  clear hR0 hK0 hB0 hZ0 hBR hB1 hmk ha htb
  obtain ⟨tr, htr⟩ : ∃ tr, tr = w1.heap.size := ⟨_, rfl⟩
  rw [← htr] at HR0 HK0 HZ0 HZ1 ⊢
  have HTR := Aside.mk htr
  clear htr
  go_loopg [7] n (fun kq v7 wr => ∃ (a : Nat) (rows : List Value), Aside (a + kq = n) ∧ v7 = .int .i64 a ∧ Aside (Rows wr (tr + 1) tr rows (partT n bss a 0)) ∧ Aside (∀ k, k < tr → wr.heap[k]? = w1.heap[k]?) ∧ Aside (Below w.heap.size w wr) ∧ Aside (tr + 1 ≤ wr.heap.size))
  case atStart => exact ⟨0, _, ⟨by omega⟩, rfl, HR0, HK0, HB0, HZ0⟩
  case round =>
    clear HR0 HK0 HB0 HZ0
    obtain ⟨a, rows, HI, rfl, HR, HK, HB, HZ⟩ := hrel
    have hnb := HN.out
    by_cases hi : a < n
    · have hn1 : a < n := hi
      obtain ⟨o', ho⟩ : ∃ o, gs[a]? = some o := ⟨_, List.getElem?_eq_getElem (by rw [HBR.out.len]; exact hi)⟩
      obtain ⟨A1, L1, C1, hr1⟩ : ∃ A L C, rowV n o' = .slice A L C := by cases o' <;> exact ⟨_, _, _, rfl⟩
      have HL : Aside (L1 = (bss.getD a []).length ∧ L1 ≤ n) := ⟨by
        cases o' with
        | none =>
          cases hr1
          have := HBR.out.nil a ho
          rw [List.getD_eq_getElem?_getD, this]
          exact ⟨rfl, Nat.zero_le _⟩
        | some g =>
          cases hr1
          obtain ⟨_, bs, h2, h3, _⟩ := HBR.out.own a g ho
          rw [List.getD_eq_getElem?_getD, h2]
          exact ⟨h3.symm, Nat.le_refl _⟩⟩
      have HC : Aside (∀ W : World, (∀ k, k < tr → W.heap[k]? = w1.heap[k]?) → W.cell? ⟨tb, a, none⟩ = some (.slice A1 L1 C1)) := ⟨fun W hW => by
        have hlt : tb < tr := by rw [HTR.out]; exact blk_lt HBR.out.blk
        rw [← hr1]
        exact (World.cell?_of_block (hW tb hlt)).trans (HBR.out.cell ho).1⟩
      have HBit : Aside (∀ W : World, (∀ k, k < tr → W.heap[k]? = w1.heap[k]?) → ∀ u, u < L1 → ∃ g, A1 = some ⟨g, 0, none⟩ ∧ W.cell? ⟨g, u, none⟩ = some (.bool ((bss.getD a []).getD u false))) := ⟨fun W hW u hu => by
        cases o' with
        | none => cases hr1; omega
        | some g =>
          cases hr1
          obtain ⟨bs, h2, h3, h4, _⟩ := HBR.out.at ho hu
          have hlt : g < tr := by rw [HTR.out]; obtain ⟨_, _, _, _, h5⟩ := HBR.out.own a g ho; exact blk_lt h5
          refine ⟨g, rfl, ?_⟩
          rw [List.getD_eq_getElem?_getD (l := bss), h2]
          exact (World.cell?_of_block (hW g hlt)).trans h4⟩
      have hLn : L1 ≤ n := HL.out.2
      clear ho hr1 hi
      go_upto_region 7 with (fail)
      go_loopg [8] L1 (fun kq v8 wq => ∃ (u : Nat) (rows : List Value), Aside (u + kq = L1) ∧ v8 = .int .i64 u ∧ Aside (Rows wq (tr + 1) tr rows (partT n bss a u)) ∧ Aside (∀ k, k < tr → wq.heap[k]? = w1.heap[k]?) ∧ Aside (Below w.heap.size w wq) ∧ Aside (tr + 1 ≤ wq.heap.size))
      case atStart => exact ⟨0, rows, ⟨by omega⟩, rfl, HR, HK, HB, HZ⟩
      case round =>
        clear HR HK HB HZ
        obtain ⟨u, rows, HU, rfl, HR, HK, HB, HZ⟩ := hrel
        have hc := HC.out _ HK.out
        by_cases hu : u < L1
        · obtain ⟨g, e, hb⟩ := HBit.out _ HK.out u hu
          subst e
          have HUn : Aside (u < L1 ∧ L1 = (bss.getD a []).length ∧ L1 ≤ n) := ⟨hu, HL.out⟩
          have HE : Aside (∀ x, (bss.getD a []).getD u false = x → partT n bss a (u + 1) = if x then partT n bss a u |>.set a (rowT bss a u ++ [(u : Int)]) else partT n bss a u) := ⟨fun x hx => by
            cases x with
            | true => rw [if_pos rfl, ← partT_set, ← rowT_yes hx]
            | false => rw [if_neg (by decide)]; exact partT_no hx⟩
          cases hbit : (bss.getD a []).getD u false with
          | false =>
            rw [hbit] at hb
            have HE2 := Aside.mk (HE.out _ hbit)
            clear hbit HE
            go_wp2
            go_roundg (L1 - (u + 1))
            case measure => have := HU.out; omega
            case rel => exact ⟨u + 1, rows, ⟨by omega⟩, by go_num, ⟨by rw [HE2.out]; exact HR.out⟩, HK, HB, HZ⟩
          | true =>
            rw [hbit] at hb
            have HE2 := Aside.mk (HE.out _ hbit)
            clear hbit HE
            have hal : a < (partT n bss a u).length := by rw [partT_length]; exact hn1
            obtain ⟨v0, hv0, hcv, hfv, hov⟩ := HR.out.at a hal
            have HV0 := Aside.mk hv0
            have HOV := Aside.mk hov
            have HPA : Aside ((partT n bss a u)[a] = rowT bss a u) := ⟨by rw [partT_at, if_neg (by omega), if_pos rfl]⟩
            have hlen : (partT n bss a u)[a].length ≤ 16777216 := by
              rw [HPA.out]
              have := rowT_length (bss := bss) (a := a) (u := u)
              omega
            have hsz : tr + 1 ≤ wr.heap.size := HZ.out
            clear hv0 hov
            go_wp2_with (at_builtin; go_must (refine app_one (tr + 1) rfl _ _ 23 3 (.int .i64 0) 1 8 rfl Try.underlying23 Try.info3 rfl (by decide) (by decide) v0 (partT n bss a u)[a].length _ [.int .i64 (u : Int)] rfl rfl rfl (by simp [Value.oneCell']) HOV.out hsz (by omega) ?_; intro v1 w6 hown hg6 hat; obtain ⟨hcv6, hfv6, A6, n6, c6, rfl, hA⟩ := To_step HR.out HV0.out HK.out HB.out HZ1.out HOV.out hsz hown hg6 hat hcv hfv; have HA := Aside.mk hA; clear hown hg6 hat hA hcv hfv hb hc hsz hlen))
            go_roundg (L1 - (u + 1))
            case measure => have := HU.out; omega
            case rel =>
              obtain ⟨h1, h2, h3, h4⟩ := HA.out
              exact ⟨u + 1, _, ⟨by omega⟩, by go_num, ⟨by rw [HE2.out, if_pos (by trivial), ← HPA.out]; exact h1⟩, ⟨h2⟩, ⟨h3⟩, ⟨h4⟩⟩
        · replace hu : L1 ≤ u := by omega
          go_wp2
          go_roundg (n - (a + 1))
          case measure => have := HI.out; omega
          case rel => exact ⟨a + 1, rows, ⟨by omega⟩, by go_num, ⟨by rw [← partT_next, ← HL.out.1]; have : u = L1 := by (have := HU.out; omega)
                                                                     rw [← this]; exact HR.out⟩, HK, HB, HZ⟩
    · have HP : Aside (ToPost w (toS n bss) (.returned (.slice (some ⟨tr, 0, none⟩) n n)) wr) := ⟨_, rfl, by
        have h := HR.out
        rw [show a = n by have := HI.out; omega, partT_all] at h
        have hl : (toS n bss).length = n := by simp [toS]
        have h2 := h.sl (by rw [hl]; omega)
        rw [hl] at h2
        exact h2.mono fun k hk => Nat.le_trans HZ1.out hk, HB.out⟩
      replace hi : n ≤ a := by omega
      clear HR HK HB HZ
      go_wp2
      go_ret
      exact HP.out
end Go.Proofs.Ytikgdhmnnnicmaa
