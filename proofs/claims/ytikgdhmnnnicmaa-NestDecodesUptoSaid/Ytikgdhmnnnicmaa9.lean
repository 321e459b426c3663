/- may, Small, Among walked: of any arguments. No condition. -/
import Derived.Test.YtikgdhmnnnicmaaZ
import Derived.Test.YtikgdhmnnnicmaaY
namespace Go.Proofs.Ytikgdhmnnnicmaa
open Go.RowKit
def goodB (x : Int) : Bool := decide (0 ≤ x) && decide (x < 16777216)
theorem goodB_iff {x : Int} : goodB x = true ↔ 0 ≤ x ∧ x < 16777216 := by simp [goodB]
def MayPost (w : World) (n : Int) (cs : List Int) (e : Ending) (w' : World) : Prop := ∃ b, e = .returned (.bool b) ∧ (b = true ↔ good cs ∧ (cs.length : Int) = n) ∧ w = w'
set_option maxHeartbeats 1000000 in
set_option maxRecDepth 100000 in
theorem may_any {w : World} {ok : Nat → Prop} {v : Value} {cs : List Int} (n : Int) (hs : Sl kint w ok v cs) : Calls Try.prog 15 #[.int .i64 n, v] w (MayPost w n cs) := by
  obtain ⟨A, c, rfl, hc, hm⟩ := hs.slice
  have HS := Aside.mk hs
  clear hs
  go_enter Try.func15, Try.ntmps15
  go_wp2
  go_loopg [5] cs.length (fun kq iv wr => ∃ (i : Nat), Aside (i + kq = cs.length) ∧ iv = .int .i64 i ∧ Aside (∀ x ∈ cs.take i, 0 ≤ x ∧ x < 16777216) ∧ w = wr)
  case atStart => exact ⟨0, ⟨by omega⟩, rfl, ⟨fun x hx => by simp at hx⟩, rfl⟩
  case round =>
    obtain ⟨i, HI, rfl, HG, rfl⟩ := hrel
    by_cases hi : i < cs.length
    · obtain ⟨b, o, e, k0⟩ := HS.out.int i hi
      cases e
      have HM : Aside (cs[i] ∈ cs) := ⟨List.getElem_mem hi⟩
      have HT : Aside (cs.take (i + 1) = cs.take i ++ [cs[i]]) := ⟨by rw [List.take_add_one, List.getElem?_eq_getElem hi]; rfl⟩
      generalize cs[i] = x at *
      by_cases h0 : x < 0
      · have d : decide (x < 0) = true := decide_eq_true h0
        have HP : Aside (MayPost w n cs (.returned (.bool false)) w) := ⟨⟨false, rfl, ⟨fun h => (by cases h), fun h => by have := (h.1 x HM.out).1; omega⟩, rfl⟩⟩
        clear h0
        go_wp2
        go_ret
        exact HP.out
      · have d : decide (x < 0) = false := decide_eq_false h0
        by_cases h1 : 16777216 ≤ x
        · have d1 : decide (16777216 ≤ x) = true := decide_eq_true h1
          have HP : Aside (MayPost w n cs (.returned (.bool false)) w) := ⟨⟨false, rfl, ⟨fun h => (by cases h), fun h => by have := (h.1 x HM.out).2; omega⟩, rfl⟩⟩
          clear h0 h1
          go_wp2
          go_ret
          exact HP.out
        · have d1 : decide (16777216 ≤ x) = false := decide_eq_false h1
          have HX : Aside (0 ≤ x ∧ x < 16777216) := ⟨by omega⟩
          clear h0 h1
          go_wp2
          go_roundg (cs.length - (i + 1))
          case measure => have := HI.out; omega
          case rel =>
            refine ⟨i + 1, ⟨by omega⟩, by go_num, ⟨fun y hy => ?_⟩, rfl⟩
            rw [HT.out] at hy
            rcases List.mem_append.1 hy with hy | hy
            · exact HG.out y hy
            · rw [List.mem_singleton.1 hy]; exact HX.out
    · have HGd : Aside (good cs) := ⟨by
        have h := HG.out
        rw [List.take_of_length_le (by omega)] at h
        exact h⟩
      replace hi : cs.length ≤ i := by omega
      go_wp2
      go_ret
      exact ⟨_, rfl, ⟨fun h => ⟨HGd.out, by simpa using h⟩, fun h => by simpa using h.2⟩, rfl⟩
def SmallPost (w : World) (n : Int) (ps : List Pair) (e : Ending) (w' : World) : Prop := ∃ b, e = .returned (.bool b) ∧ (b = true ↔ 0 ≤ n ∧ n ≤ 2000 ∧ ps.length ≤ 20000) ∧ w = w'
set_option maxHeartbeats 1000000 in
set_option maxRecDepth 100000 in
theorem Small_any {w : World} {ok : Nat → Prop} {v : Value} {ps : List Pair} (n : Int) (hs : Sl kpair w ok v ps) : Calls Try.prog 40 #[.int .i64 n, v] w (SmallPost w n ps) := by
  obtain ⟨A, c, rfl, hc, hm⟩ := hs.slice
  clear hs
  have hP : ∀ b : Bool, (b = true ↔ 0 ≤ n ∧ n ≤ 2000 ∧ ps.length ≤ 20000) → SmallPost w n ps (.returned (.bool b)) w := fun b hb => ⟨b, rfl, hb, rfl⟩
  have HP := Aside.mk hP
  clear hP
  by_cases h0 : 0 ≤ n
  · have d0 : decide (0 ≤ n) = true := decide_eq_true h0
    by_cases h1 : n ≤ 2000
    · have d1 : decide (n ≤ 2000) = true := decide_eq_true h1
      have H01 := Aside.mk (And.intro h0 h1)
      clear h0 h1
      go_enter Try.func40, Try.ntmps40
      go_wp2
      go_ret
      refine HP.out _ ?_
      have := H01.out
      simp
      omega
    · have d1 : decide (n ≤ 2000) = false := decide_eq_false h1
      have H01 := Aside.mk h1
      clear h0 h1
      go_enter Try.func40, Try.ntmps40
      go_wp2
      go_ret
      refine HP.out _ ⟨fun h => (by cases h), fun h => by have := H01.out; omega⟩
  · have d0 : decide (0 ≤ n) = false := decide_eq_false h0
    have H01 := Aside.mk h0
    clear h0
    go_enter Try.func40, Try.ntmps40
    go_wp2
    go_ret
    refine HP.out _ ⟨fun h => (by cases h), fun h => by have := H01.out; omega⟩
def AmongPost (w : World) (n : Nat) (ps : List Pair) (e : Ending) (w' : World) : Prop := ∃ v qs, e = .returned v ∧ among n qs ∧ qs.length ≤ ps.length ∧ w'.ownsRow w.heap.size 101 2 v qs.length (pairCells qs) ∧ Below w.heap.size w w'
/-- append of one boxed element in a region that has drawn its order. -/
theorem app_drew {W : World} (B : Nat) {t e : TypeId} {z : Value} {size bytes n : Nat} {v : Value} {xs ys : List Value} (ht : Try.prog.underlying t = some (.slice e)) (hinfo : (Try.prog.info? e).map (fun i => (i.zero, i.size, i.bytes)) = some (some z, size, bytes)) (hz : z.cells.size = size) (hsz : 0 < size) (hb0 : 0 < bytes)
    (hy : ys.length = size) (h1 : ∀ u ∈ ys, u.oneCell' = true) (HO : W.ownsRow B e size v n xs) (hbase : B ≤ W.heap.size) (hl : (n + 1) * bytes ≤ 140737488355328) :
    ∃ A m c w1, (appSem #[t, t] t #[v, .slice (some ⟨W.heap.size, 0, none⟩) 1 1]).run Try.prog ((W.alloc (.cells ys.toArray e)).drew) = .ok (.slice A m c) w1 ∧ w1.ownsRow B e size (.slice A m c) (n + 1) (xs ++ ys) ∧ (∀ B0 w0, Below B0 w0 W → B0 ≤ B → Below B0 w0 w1) ∧
      (∀ k, k < W.heap.size → some k ≠ v.ownBlock → w1.heap[k]? = W.heap[k]?) := by
  obtain ⟨i0, hi, hz0, hz1, hz2⟩ := info_parts hinfo
  have hlen : n + 1 ≤ 140737488355328 := Nat.le_trans (Nat.le_mul_of_pos_right _ hb0) hl
  have HO2 : ((W.alloc (.cells ys.toArray e)).drew).ownsRow B e size v n xs := HO.alloc _
  obtain ⟨v1, w1, hr, h2, h3, h4, h5⟩ := run_append_own_at (P := Try.prog) ((W.alloc (.cells ys.toArray e)).drew) B t t e i0 z size bytes ht hi hz0 hz1 hz2 hz hsz v n xs HO2 ⟨W.heap.size, 0, none⟩ 1 1 ys (by omega)
    (World.news_of_block (w := (W.alloc (.cells ys.toArray e)).drew) (cs := ys.toArray) (t := e) (fr := (0, 0)) (heap_alloc_new W _)) h1 (by simp only [maxLen]; omega) (by omega) (by simp; omega)
  have hv1 : ∃ A m c, v1 = .slice A m c := by
    rcases h2.2 with ⟨rfl, _⟩ | ⟨g, cap, cur, rfl, _⟩
    · exact ⟨_, _, _, rfl⟩
    · exact ⟨_, _, _, rfl⟩
  obtain ⟨A, m, c, rfl⟩ := hv1
  refine ⟨A, m, c, w1, hr, h2, fun B0 w0 hb hB => ?_, fun k hk hne => ?_⟩
  · exact (bdrew1 (hb.alloc (Nat.le_trans hB hbase) _)).grown h3 (by simp; omega) fun k e => Nat.le_trans hB (HO.lt k e).1
  · exact (h3.block k (by simp; omega) hne).trans (Below.heap_alloc W _ k hk)
theorem Try.info101 : (Try.prog.info? 101).map (fun i => (i.zero, i.size, i.bytes)) = some (some (.agg #[.int .i64 0, .int .i64 0]), 2, 16) := by kernel_rfl
theorem pairCells_snoc (xs : List Pair) (x : Pair) : pairCells (xs ++ [x]) = pairCells xs ++ [.int .i64 x.U, .int .i64 x.V] := by simp [pairCells]
theorem mod_in (U : Int) (n : Nat) (h0 : 0 < n) (hn : n ≤ 2000) : 0 ≤ (wrap64 (U.tmod n + n)).tmod n ∧ (wrap64 (U.tmod n + n)).tmod n < n := by
  have h1 : U.tmod n < n := Int.tmod_lt_of_pos _ (by omega)
  have h2 : -(n : Int) < U.tmod n := by
    have := Int.lt_tmod_of_pos U (show 0 < (n : Int) by omega)
    exact this
  rw [Go.IntWalk.wrap64_in _ (by omega)]
  exact ⟨Int.tmod_nonneg _ (by omega), Int.tmod_lt_of_pos _ (by omega)⟩
attribute [local go_sem ↓] append_open
set_option maxHeartbeats 4000000 in
set_option maxRecDepth 100000 in
theorem Among_any {w : World} {ok : Nat → Prop} {v : Value} {ps : List Pair} (n : Nat) (hs : Sl kpair w ok v ps) (hn : n ≤ 2000) (hl : ps.length ≤ 20000) : Calls Try.prog 41 #[.int .i64 n, v] w (AmongPost w n ps) := by
  obtain ⟨A, c, rfl, hc, hm⟩ := hs.slice
  have HS := Aside.mk hs
  clear hs
  rcases Nat.eq_zero_or_pos n with h0 | h0
  · subst h0
    have HP : Aside (AmongPost w 0 ps (.returned (.slice none 0 0)) w) := ⟨_, [], rfl, fun p hp => by simp at hp, Nat.zero_le _, World.ownsRow_nil _ _ _ _, Below.refl _ _⟩
    go_enter Try.func41, Try.ntmps41
    go_wp2
    go_loopg [5, 6] 0 (fun kq v5 iv wr => v5 = .slice none 0 0 ∧ iv = .int .i64 0 ∧ w = wr)
    case atStart => exact ⟨rfl, rfl, rfl⟩
    case round =>
      obtain ⟨rfl, rfl, rfl⟩ := hrel
      by_cases hp : 0 < ps.length
      · have d0 : decide (0 < (ps.length : Int)) = true := decide_eq_true (by omega)
        go_wp2
        go_ret
        exact HP.out
      · have d0 : decide (0 < (ps.length : Int)) = false := decide_eq_false (by omega)
        go_wp2
        go_ret
        exact HP.out
  · have d0 : decide (0 < (n : Int)) = true := by simp; omega
    have d1 : ((n : Int) == 0) = false := by simp; omega
    have d2 : (n : Int) ≠ 0 := by omega
    have HR0 : Aside (w.ownsRow w.heap.size 101 2 (.slice none 0 0) ([] : List Pair).length (pairCells [])) := ⟨World.ownsRow_nil _ _ _ _⟩
    go_enter Try.func41, Try.ntmps41
    go_wp2
    go_loopg [5, 6] ps.length (fun kq v5 iv wr => ∃ (i : Nat) (qs : List Pair), Aside (i + kq = ps.length) ∧ iv = .int .i64 i ∧ Aside (qs.length = i) ∧ Aside (among n qs) ∧ Aside (Below w.heap.size w wr) ∧ Aside (wr.ownsRow w.heap.size 101 2 v5 qs.length (pairCells qs)))
    case atStart => exact ⟨0, [], ⟨by omega⟩, rfl, ⟨rfl⟩, ⟨fun p hp => by simp at hp⟩, ⟨Below.refl _ _⟩, HR0⟩
    case round =>
      clear HR0
      obtain ⟨i, qs, HI, rfl, HQ, HM, HB, HR⟩ := hrel
      by_cases hi : i < ps.length
      · obtain ⟨b, o, e, k0, k1⟩ := (HS.out.below HB.out).pair i hi
        cases e
        generalize ps[i] = p at *
        generalize p.U = U at *
        generalize p.V = V at *
        have HX : Aside ((0 ≤ (wrap64 (U.tmod n + n)).tmod n ∧ (wrap64 (U.tmod n + n)).tmod n < n) ∧ 0 ≤ (wrap64 (V.tmod n + n)).tmod n ∧ (wrap64 (V.tmod n + n)).tmod n < n) := ⟨mod_in U n h0 hn, mod_in V n h0 hn⟩
        have hql := HQ.out
        obtain ⟨A1, m1, c1, w1, hrun, hown, hbel, _⟩ := app_drew (W := wr) w.heap.size Try.underlying22 Try.info101 rfl (by decide) (by decide) (ys := [.int .i64 ((wrap64 (U.tmod n + n)).tmod n), .int .i64 ((wrap64 (V.tmod n + n)).tmod n)]) rfl (by simp [Value.oneCell']) HR.out HB.out.size (by omega)
        have HREL : Aside (∃ (i' : Nat) (qs' : List Pair), Aside (i' + (ps.length - (i + 1)) = ps.length) ∧ Value.int .i64 ((i : Int) + 1) = .int .i64 i' ∧ Aside (qs'.length = i') ∧ Aside (among n qs') ∧ Aside (Below w.heap.size w w1) ∧ Aside (w1.ownsRow w.heap.size 101 2 (.slice A1 m1 c1) qs'.length (pairCells qs'))) := ⟨i + 1, qs ++ [⟨(wrap64 (U.tmod n + n)).tmod n, (wrap64 (V.tmod n + n)).tmod n⟩], ⟨by omega⟩, by go_num, ⟨by simp; omega⟩, ⟨fun p hp => by
          rcases List.mem_append.1 hp with hp | hp
          · exact HM.out p hp
          · rw [List.mem_singleton.1 hp]
            exact ⟨HX.out.1.1, HX.out.1.2, HX.out.2.1, HX.out.2.2⟩⟩, ⟨hbel _ _ HB.out (Nat.le_refl _)⟩, ⟨by rw [pairCells_snoc, List.length_append]; exact hown⟩⟩
        clear hown hbel HQ HM HB HR HX hql
        go_upto_region 5 with (fail)
        go_region
        go_wp2
        go_roundg (ps.length - (i + 1))
        case measure => have := HI.out; omega
        case rel => exact HREL.out
      · have HP : Aside (AmongPost w n ps (.returned u5) wr) := ⟨u5, qs, rfl, HM.out, by have := HQ.out; have := HI.out; omega, HR.out, HB.out⟩
        replace hi : ps.length ≤ i := by omega
        clear HM HB HR HQ
        go_wp2
        go_ret
        exact HP.out
end Go.Proofs.Ytikgdhmnnnicmaa
