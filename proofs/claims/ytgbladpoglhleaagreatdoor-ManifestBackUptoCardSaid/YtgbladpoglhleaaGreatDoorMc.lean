/- pithlaw14's few, lent, stays; the next generation, the program's and the document's. No condition. -/
import Derived.Test.YtgbladpoglhleaaGreatDoorMb
import Derived.Lib.BufferMore
import Derived.Laws.Rows
namespace Go.Proofs.YtgbladpoglhleaaGreatDoor
open Go.RowKit
def fewB (m : Man) : Bool := decide (m.Cuts.length ≤ 2000) && decide (m.Shards.length ≤ 2000) && decide (m.Degrees.length ≤ 5000)
set_option maxHeartbeats 1000000 in
set_option maxRecDepth 100000 in
theorem few_any {w : World} {ok : Nat → Prop} {v : Value} {m : Man} (hx : ManV w ok v m) :
    Calls Tryz.prog 18 #[v] w fun e w' => e = .returned (.bool (fewB m)) ∧ Below w.heap.size w w' := by
  obtain ⟨a, b, c, rfl, h1, h2, h3⟩ := hx
  obtain ⟨Aa, ca, rfl, _⟩ := h1.slice
  obtain ⟨Ab, cb, rfl, _⟩ := h2.slice
  obtain ⟨Ac, cc, rfl, _⟩ := h3.slice
  have HB := Aside.mk fun n => bdrew ((Below.refl w.heap.size w).alloc (Nat.le_refl _) (.cells #[.int .i64 m.Gen, .int .i64 m.N, .slice Aa m.Cuts.length ca, .slice Ab m.Shards.length cb, .slice Ac m.Degrees.length cc] 33)) n
  have hE : fewB m = (decide (m.Cuts.length ≤ 2000) && decide (m.Shards.length ≤ 2000) && decide (m.Degrees.length ≤ 5000)) := by unfold fewB; rfl
  clear h1 h2 h3
  generalize fewB m = q at *
  have HE := Aside.mk hE
  clear hE
  by_cases e1 : m.Cuts.length ≤ 2000
  · rw [decide_eq_true e1] at HE
    by_cases e2 : m.Shards.length ≤ 2000
    · rw [decide_eq_true e2] at HE
      by_cases e3 : m.Degrees.length ≤ 5000
      · rw [decide_eq_true e3] at HE
        go_enter Tryz.func18, Tryz.ntmps18
        go_wp2
        go_ret
        exact ⟨retb (by rw [HE.out]; simp; omega), HB.out 0⟩
      · rw [decide_eq_false e3] at HE
        replace e3 : 5000 < m.Degrees.length := by omega
        go_enter Tryz.func18, Tryz.ntmps18
        go_wp2
        go_ret
        exact ⟨retb (by rw [HE.out]; simp; omega), HB.out 0⟩
    · rw [decide_eq_false e2] at HE
      replace e2 : 2000 < m.Shards.length := by omega
      go_enter Tryz.func18, Tryz.ntmps18
      go_wp2
      go_ret
      exact ⟨retb HE.out, HB.out 0⟩
  · rw [decide_eq_false e1] at HE
    replace e1 : 2000 < m.Cuts.length := by omega
    go_enter Tryz.func18, Tryz.ntmps18
    go_wp2
    go_ret
    exact ⟨retb HE.out, HB.out 0⟩
def nextF (g : Int) (there : Bool) : Int × Int := if there then (if 2147483647 ≤ g then (0, 141) else (wrap64 (g + 1), 0)) else (1, 0)
theorem num_any {w : World} (x : Int) : Calls Tryz.prog 23 #[.int .i64 x] w fun e w' => e = .returned (.int .i64 x) ∧ w' = w := by
  go_enter Tryz.func23, Tryz.ntmps23
  go_wp2
  go_ret
  exact ⟨rfl, rfl⟩
theorem own_low {w : World} {B B' : Nat} {e : TypeId} {size n : Nat} {v : Value} {xs : List Value} (h : w.ownsRow B e size v n xs) (hb : B' ≤ B) : w.ownsRow B' e size v n xs := by
  refine ⟨h.1, ?_⟩
  rcases h.2 with hn | ⟨g, cap, cur, e1, h1, h2⟩
  · exact .inl hn
  · exact .inr ⟨g, cap, cur, e1, Nat.le_trans hb h1, h2⟩
theorem own_cap {w : World} {B : Nat} {e : TypeId} {size n g cap : Nat} {xs : List Value} (h : w.ownsRow B e size (.slice (some ⟨g, 0, none⟩) n cap) n xs) : n ≤ cap ∧ cap ≤ 9223372036854775807 := by
  rcases h.2 with ⟨e1, _⟩ | ⟨g', cap', cur, e1, h1, h2, h3, h4, _⟩
  · cases e1
  · cases e1
    exact ⟨h3, by simp only [maxLen] at h4; omega⟩
theorem store_at {w : World} {g : Nat} {cs : Array Value} {e : TypeId} (h : w.heap[g]? = some (.cells cs e (0, 0))) (j : Nat) (hj : j < cs.size) : w.cell? ⟨g, j, none⟩ = some (cs[j]) ∧ w.frozen? ⟨g, j, none⟩ = false ∧ g < w.heap.size := by
  refine ⟨?_, ?_, blk_lt h⟩
  · simp [World.cell?, h, hj]
  · simp [World.frozen?, h]
theorem set_far {w : World} {a b : Addr} {v u : Value} (hne : b.block ≠ a.block) (h : w.cell? a = some u) : (w.setCell b v).cell? a = some u := (World.cell?_setCell_far w b a v hne).trans h
theorem heap3 (w : World) (a b c : Obj) : (((w.alloc a).alloc b).alloc c).heap[w.heap.size + 1 + 1]? = some c := by simpa using heap_alloc_new ((w.alloc a).alloc b) c
theorem heap3m (w : World) (a b c : Obj) : (((w.alloc a).alloc b).alloc c).heap[w.heap.size]? = some a := by
  rw [heap_alloc_old _ _ (by simp; omega), heap_alloc_old _ _ (by simp)]
  exact heap_alloc_new w a
theorem heap3r (w : World) (a b c : Obj) : (((w.alloc a).alloc b).alloc c).heap[w.heap.size + 1]? = some b := by
  rw [heap_alloc_old _ _ (by simp)]
  simpa using heap_alloc_new (w.alloc a) b
/-- A row of five, written over. -/
def st5 (W : World) (R : Nat) (a b c d e : Value) : World := ((((W.setCell ⟨R, 0, none⟩ a).setCell ⟨R, 1, none⟩ b).setCell ⟨R, 2, none⟩ c).setCell ⟨R, 3, none⟩ d).setCell ⟨R, 4, none⟩ e
theorem st5_heap {W : World} {R : Nat} {a b c d e : Value} {k : Nat} (hk : k ≠ R) : (st5 W R a b c d e).heap[k]? = W.heap[k]? := by
  unfold st5
  rw [Below.heap_setCell _ _ _ _ hk, Below.heap_setCell _ _ _ _ hk, Below.heap_setCell _ _ _ _ hk, Below.heap_setCell _ _ _ _ hk, Below.heap_setCell _ _ _ _ hk]
theorem st5_row {W : World} {R : Nat} {a b c d e a' b' c' d' e' : Value} {t : TypeId} (h : W.heap[R]? = some (.cells #[a', b', c', d', e'] t (0, 0))) : (st5 W R a b c d e).heap[R]? = some (.cells #[a, b, c, d, e] t (0, 0)) := by
  unfold st5
  exact Lib.heap_setCell_same (Lib.heap_setCell_same (Lib.heap_setCell_same (Lib.heap_setCell_same (Lib.heap_setCell_same h a) b) c) d) e
theorem st5_size {W : World} {R : Nat} {a b c d e : Value} : (st5 W R a b c d e).heap.size = W.heap.size := by simp [st5]
theorem own_slice {w : World} {B s n : Nat} {e : TypeId} {v : Value} {xs : List Value} (h : w.ownsRow B e s v n xs) : ∃ A m c, v = .slice A m c := by
  rcases h.2 with ⟨rfl, _⟩ | ⟨g, cap, cur, rfl, _⟩
  · exact ⟨_, _, _, rfl⟩
  · exact ⟨_, _, _, rfl⟩
theorem ownsRow_move {w w1 : World} {base : Nat} {e : TypeId} {size n : Nat} {v : Value} {xs : List Value} (h : w.ownsRow base e size v n xs) (hm : ∀ k, v.ownBlock = some k → w1.heap[k]? = w.heap[k]?) : w1.ownsRow base e size v n xs := by
  refine ⟨h.1, ?_⟩
  rcases h.2 with hn | ⟨g, cap, cur, rfl, hb, hg, h1⟩
  · exact .inl hn
  · exact .inr ⟨g, cap, cur, rfl, hb, (hm g (by simp [Value.ownBlock])).trans hg, h1⟩
/-- Two blocks of the call's own: the manifest that came in, the one that is made. -/
structure LInv (w wx : World) (M C : Nat) (mrow crow : Array Value) : Prop where
  bel : Below w.heap.size w wx
  mb : wx.heap[M]? = some (.cells mrow 33 (0, 0))
  cb : wx.heap[C]? = some (.cells crow 33 (0, 0))
  rb : wx.heap[w.heap.size + 1]? = some (.cells #[.int .i64 0, .int .i64 0, .slice none 0 0, .slice none 0 0, .slice none 0 0] 33 (0, 0))
  m0 : w.heap.size = M
  mc : C = w.heap.size + 1 + 1
/-- A row of the call's own that is longer than its slice. -/
def LRw (w : World) (lo hi : Nat) (e : TypeId) (sz : Nat) (v : Value) (n : Nat) (cells : List Value) : Prop :=
  ∃ g cap, v = .slice (some ⟨g, 0, none⟩) n cap ∧ lo ≤ g ∧ g < hi ∧ w.ownsRow lo e sz (.slice (some ⟨g, 0, none⟩) (n + 1) cap) (n + 1) cells
theorem LRw.keep {w w' : World} {lo hi : Nat} {e : TypeId} {sz : Nat} {v : Value} {n : Nat} {cells : List Value} (h : LRw w lo hi e sz v n cells) (hm : ∀ k, lo ≤ k → k < hi → w'.heap[k]? = w.heap[k]?) : LRw w' lo hi e sz v n cells := by
  obtain ⟨g, cap, rfl, h1, h2, h3⟩ := h
  exact ⟨g, cap, rfl, h1, h2, ownsRow_move h3 fun k e => by
    have : g = k := by simpa [Value.ownBlock] using e
    subst this
    exact hm g h1 h2⟩
theorem LRw.low {w : World} {lo lo' hi : Nat} {e : TypeId} {sz : Nat} {v : Value} {n : Nat} {cells : List Value} (h : LRw w lo hi e sz v n cells) (hl : lo' ≤ lo) : LRw w lo' hi e sz v n cells := by
  obtain ⟨g, cap, rfl, h1, h2, h3⟩ := h
  exact ⟨g, cap, rfl, by omega, h2, own_low h3 hl⟩
theorem lent_step {w W w6 : World} {M C j : Nat} {e : TypeId} {sz g cap n : Nat} {cells : List Value} {mrow crow : Array Value} {v : Value} (hL : LInv w W M C mrow crow) (hB : Below W.heap.size W w6)
    (hO : w6.ownsRow W.heap.size e sz (.slice (some ⟨g, 0, none⟩) (n + 1) cap) (n + 1) cells) (hv : v = .slice (some ⟨g, 0, none⟩) n cap) :
    LInv w (w6.setCell ⟨C, j, none⟩ v) M C mrow (crow.setIfInBounds j v) ∧ LRw (w6.setCell ⟨C, j, none⟩ v) W.heap.size (w6.setCell ⟨C, j, none⟩ v).heap.size e sz v n cells ∧
      (∀ k, k < W.heap.size → k ≠ C → (w6.setCell ⟨C, j, none⟩ v).heap[k]? = W.heap[k]?) ∧ W.heap.size ≤ (w6.setCell ⟨C, j, none⟩ v).heap.size ∧ C < W.heap.size := by
  subst hv
  have hC := blk_lt hL.cb
  have hs : ∀ k, k ≠ C → (w6.setCell ⟨C, j, none⟩ (.slice (some ⟨g, 0, none⟩) n cap)).heap[k]? = w6.heap[k]? := fun k hk => Below.heap_setCell _ _ _ _ hk
  have hsz : (w6.setCell ⟨C, j, none⟩ (.slice (some ⟨g, 0, none⟩) n cap)).heap.size = w6.heap.size := by simp
  have hg := hO.lt g rfl
  refine ⟨⟨((bthen hL.bel hL.bel.size hB)).setCell (by have := hL.m0; have := hL.mc; show w.heap.size ≤ C; omega) _, ?_, ?_, ?_, hL.m0, hL.mc⟩, ⟨g, cap, rfl, hg.1, by rw [hsz]; exact hg.2, ownsRow_move hO fun k e => ?_⟩, fun k h1 h2 => (hs k h2).trans (hB.block k h1), by rw [hsz]; exact hB.size, hC⟩
  · rw [hs M (by have := hL.mc; have := hL.m0; omega)]
    exact bblk hB hL.mb
  · have hc := bblk hB hL.cb
    simp only [World.setCell, Array.getElem?_modify, if_true, hc, Option.map_some]
    rfl
  · rw [hs (w.heap.size + 1) (by have := hL.mc; omega)]
    exact bblk hB hL.rb
  · have : g = k := by simpa [Value.ownBlock] using e
    subst this
    exact hs _ (by omega)
def LentPost (w : World) (m : Man) (e : Ending) (w' : World) : Prop :=
  ∃ v1 v2 v3 s1 s2, e = .returned (.agg #[.int .i64 m.Gen, .int .i64 m.N, v1, v2, v3]) ∧ s1 ≤ s2 ∧ s2 ≤ w'.heap.size ∧ LRw w' w.heap.size s1 3 1 v1 m.Cuts.length (ints m.Cuts ++ [.int .i64 201]) ∧
    LRw w' s1 s2 54 3 v2 m.Shards.length (infoCells m.Shards ++ [.int .i64 201, .int .u32 0, .int .i64 0]) ∧ LRw w' s2 w'.heap.size 3 1 v3 m.Degrees.length (ints m.Degrees ++ [.int .i64 201]) ∧ Below w.heap.size w w'
set_option maxHeartbeats 8000000 in
set_option maxRecDepth 100000 in
theorem lent_any {w : World} {ok : Nat → Prop} {v : Value} {m : Man} (hx : ManV w ok v m) (hl1 : m.Cuts.length ≤ 2000) (hl2 : m.Shards.length ≤ 2000) (hl3 : m.Degrees.length ≤ 5000) : Calls Tryz.prog 19 #[v] w (LentPost w m) := by
  obtain ⟨a, b, c, rfl, h1, h2, h3⟩ := hx
  obtain ⟨Aa, ca, rfl, _⟩ := h1.slice
  obtain ⟨Ab, cb, rfl, _⟩ := h2.slice
  obtain ⟨Ac, cc, rfl, _⟩ := h3.slice
  obtain ⟨ii, hi, hiz, his, hib⟩ := info_parts Tryz.infoInt
  obtain ⟨fi, hf, hfz, hfs, hfb⟩ := info_parts Tryz.infoInfo
  have H1 := Aside.mk h1
  have H2 := Aside.mk h2
  have H3 := Aside.mk h3
  clear h1 h2 h3
  go_enter Tryz.func19, Tryz.ntmps19
  go_wp2_with fail
  generalize hW : (((w.alloc _).alloc _).alloc _) = W
  have HL : Aside (LInv w W w.heap.size (w.heap.size + 1 + 1) #[.int .i64 m.Gen, .int .i64 m.N, .slice Aa m.Cuts.length ca, .slice Ab m.Shards.length cb, .slice Ac m.Degrees.length cc] #[.int .i64 m.Gen, .int .i64 m.N, .slice Aa m.Cuts.length ca, .slice Ab m.Shards.length cb, .slice Ac m.Degrees.length cc]) := ⟨by
    rw [← hW]
    exact ⟨(((Below.refl _ w).alloc (Nat.le_refl _) _).alloc (by simp) _).alloc (by simp; omega) _, heap3m _ _ _ _, heap3 _ _ _ _, heap3r _ _ _ _, rfl, rfl⟩⟩
  clear hW
  go_cut [] (fun wx => ∃ v2, Aside (LInv w wx w.heap.size (w.heap.size + 1 + 1) #[.int .i64 m.Gen, .int .i64 m.N, .slice Aa m.Cuts.length ca, .slice Ab m.Shards.length cb, .slice Ac m.Degrees.length cc] #[.int .i64 m.Gen, .int .i64 m.N, v2, .slice Ab m.Shards.length cb, .slice Ac m.Degrees.length cc]) ∧
      Aside (LRw wx W.heap.size wx.heap.size 3 1 v2 m.Cuts.length (ints m.Cuts ++ [.int .i64 201])) ∧ Aside (∀ q, q < W.heap.size → q ≠ w.heap.size + 1 + 1 → wx.heap[q]? = W.heap[q]?) ∧ Aside (W.heap.size ≤ wx.heap.size) ∧ Aside (w.heap.size + 1 + 1 < W.heap.size))
  case first =>
    obtain ⟨hk, _, _⟩ := store_at HL.out.mb 2 (show 2 < 5 by decide)
    have bl1 : Below W.heap.size W W.drew := bdrew1 (Below.refl _ _)
    have bl2 := bl1.alloc (Nat.le_refl _) (.cells #[.int .i64 201] 3)
    have HI1 := Aside.mk (Ints_any (H1.out.below (bthen HL.out.bel HL.out.bel.size bl1)) (by omega : m.Cuts.length ≤ 16777216))
    have HI2 := Aside.mk (Ints_any (H1.out.below (bthen HL.out.bel HL.out.bel.size bl2)) (by omega : m.Cuts.length ≤ 16777216))
    have HN1 : Aside (∀ w5 v5, w5.ownsRow W.drew.heap.size 3 1 v5 m.Cuts.length (ints m.Cuts) → Below W.drew.heap.size W.drew w5 → (w5.alloc (.cells #[.int .i64 201] 3)).ownsRow W.heap.size 3 1 v5 m.Cuts.length (ints m.Cuts) ∧ (w5.alloc (.cells #[.int .i64 201] 3)).heap[w5.heap.size]? = some (.cells #[.int .i64 201] 3 (0, 0)) ∧ Below W.heap.size W (w5.alloc (.cells #[.int .i64 201] 3)) ∧ w5.cell? ⟨w.heap.size, 2, none⟩ = some (.slice Aa m.Cuts.length ca)) := ⟨fun w5 v5 h q => ⟨h.alloc _, heap_alloc_new _ _, (bl1.trans q).alloc q.size _, bcell q hk⟩⟩
    have HN2 : Aside (∀ w5 v5, w5.ownsRow (W.drew.alloc (.cells #[.int .i64 201] 3)).heap.size 3 1 v5 m.Cuts.length (ints m.Cuts) → Below (W.drew.alloc (.cells #[.int .i64 201] 3)).heap.size (W.drew.alloc (.cells #[.int .i64 201] 3)) w5 → w5.ownsRow W.heap.size 3 1 v5 m.Cuts.length (ints m.Cuts) ∧ w5.heap[W.heap.size]? = some (.cells #[.int .i64 201] 3 (0, 0)) ∧ Below W.heap.size W w5 ∧ w5.cell? ⟨w.heap.size, 2, none⟩ = some (.slice Aa m.Cuts.length ca)) := ⟨fun w5 v5 h q => ⟨own_low h (by simp), bblk q (heap_alloc_new W.drew _), bthen bl2 bl2.size q, bcell q ((bcell bl2 hk))⟩⟩
    clear bl1 bl2
    go_region_held3 (fun w' => w'.cell? ⟨w.heap.size, 2, none⟩ = some (.slice Aa m.Cuts.length ca)) (first | (go_keep; done) | exact set_far (by show w.heap.size + 1 + 1 ≠ w.heap.size; omega) (by assumption))
      (first
        | (go_at_call 47; refine HI1.out.mono ?_; rintro e w5 ⟨v5, rfl, ho5, B5⟩; obtain ⟨ho, hx, hb5, k5⟩ := HN1.out _ _ ho5 B5; have HO := Aside.mk ho; have HX := Aside.mk hx; have HB := Aside.mk hb5; obtain ⟨A5, n5, c5, rfl⟩ := own_slice ho; clear ho5 B5 ho hx hb5)
        | (go_at_call 47; refine HI2.out.mono ?_; rintro e w5 ⟨v5, rfl, ho5, B5⟩; obtain ⟨ho, hx, hb5, k5⟩ := HN2.out _ _ ho5 B5; have HO := Aside.mk ho; have HX := Aside.mk hx; have HB := Aside.mk hb5; obtain ⟨A5, n5, c5, rfl⟩ := own_slice ho; clear ho5 B5 ho hx hb5)
        | (refine step_append_lies _ (by rfl) _ _ _ (by rfl) W.heap.size 3 ii _ 1 8 Tryz.underlying30 (by assumption) (by assumption) (by assumption) (by assumption) rfl (by decide) _ m.Cuts.length (ints m.Cuts) (by rfl) HO.out ⟨_, 0, none⟩ 1 1 [.int .i64 201] (by rfl) (by rfl) (World.news_of_block HX.out) (by simp [Value.oneCell']) (by decide) (by simp only [maxLen]; omega) (by omega) HB.out.size _ rfl ?_; intro g cap w6 hown hg hat hlt; have HB6 := Aside.mk (HB.out.grown hg HB.out.size fun q e => (HO.out.lt q e).1); have hcap := own_cap hown; have HS := Aside.mk (lent_step (j := 2) HL.out HB6.out hown rfl); have q1 : (0 : Int) ≤ (m.Cuts.length : Int) := Int.natCast_nonneg _; have q2 : (m.Cuts.length : Int) ≤ (cap : Int) := Int.ofNat_le.2 (Nat.le_trans (Nat.le_succ _) hcap.1); have c6 := bblk HB6.out HL.out.cb; have c7 := store_at c6 2 (show 2 < 5 by decide); obtain ⟨c7, c8, c9⟩ := c7; have k6 := bcell HB6.out hk; clear hown hg hat hlt))
    all_goals (go_wp2; go_meet; case rel => exact ⟨_, ⟨HS.out.1⟩, ⟨HS.out.2.1⟩, ⟨HS.out.2.2.1⟩, ⟨HS.out.2.2.2.1⟩, ⟨HS.out.2.2.2.2⟩⟩)
  case rest =>
    obtain ⟨v2, HL2, HR2, HK2, HS2, HT2⟩ := hcut
    obtain ⟨W2, rfl⟩ : ∃ W2, W2 = wc := ⟨_, rfl⟩
    go_upto_region 3 with (fail)
    go_cut [] (fun wx => ∃ v3, Aside (LInv w wx w.heap.size (w.heap.size + 1 + 1) #[.int .i64 m.Gen, .int .i64 m.N, .slice Aa m.Cuts.length ca, .slice Ab m.Shards.length cb, .slice Ac m.Degrees.length cc] #[.int .i64 m.Gen, .int .i64 m.N, v2, v3, .slice Ac m.Degrees.length cc]) ∧
        Aside (LRw wx W2.heap.size wx.heap.size 54 3 v3 m.Shards.length (infoCells m.Shards ++ [.int .i64 201, .int .u32 0, .int .i64 0])) ∧ Aside (∀ q, q < W2.heap.size → q ≠ w.heap.size + 1 + 1 → wx.heap[q]? = W2.heap[q]?) ∧ Aside (W2.heap.size ≤ wx.heap.size) ∧ Aside (w.heap.size + 1 + 1 < W2.heap.size))
    case first =>
      obtain ⟨hk, _, _⟩ := store_at HL2.out.mb 3 (show 3 < 5 by decide)
      have bl1 : Below W2.heap.size W2 W2.drew := bdrew1 (Below.refl _ _)
      have bl2 := bl1.alloc (Nat.le_refl _) (.cells #[.int .i64 201, .int .u32 0, .int .i64 0] 54)
      have HI1 := Aside.mk (Infos_any (H2.out.below (bthen HL2.out.bel HL2.out.bel.size bl1)) (by omega : m.Shards.length ≤ 16777216))
      have HI2 := Aside.mk (Infos_any (H2.out.below (bthen HL2.out.bel HL2.out.bel.size bl2)) (by omega : m.Shards.length ≤ 16777216))
      have HN1 : Aside (∀ w5 v5, w5.ownsRow W2.drew.heap.size 54 3 v5 m.Shards.length (infoCells m.Shards) → Below W2.drew.heap.size W2.drew w5 → (w5.alloc (.cells #[.int .i64 201, .int .u32 0, .int .i64 0] 54)).ownsRow W2.heap.size 54 3 v5 m.Shards.length (infoCells m.Shards) ∧ (w5.alloc (.cells #[.int .i64 201, .int .u32 0, .int .i64 0] 54)).heap[w5.heap.size]? = some (.cells #[.int .i64 201, .int .u32 0, .int .i64 0] 54 (0, 0)) ∧ Below W2.heap.size W2 (w5.alloc (.cells #[.int .i64 201, .int .u32 0, .int .i64 0] 54)) ∧ w5.cell? ⟨w.heap.size, 3, none⟩ = some (.slice Ab m.Shards.length cb)) := ⟨fun w5 v5 h q => ⟨h.alloc _, heap_alloc_new _ _, (bl1.trans q).alloc q.size _, bcell q hk⟩⟩
      have HN2 : Aside (∀ w5 v5, w5.ownsRow (W2.drew.alloc (.cells #[.int .i64 201, .int .u32 0, .int .i64 0] 54)).heap.size 54 3 v5 m.Shards.length (infoCells m.Shards) → Below (W2.drew.alloc (.cells #[.int .i64 201, .int .u32 0, .int .i64 0] 54)).heap.size (W2.drew.alloc (.cells #[.int .i64 201, .int .u32 0, .int .i64 0] 54)) w5 → w5.ownsRow W2.heap.size 54 3 v5 m.Shards.length (infoCells m.Shards) ∧ w5.heap[W2.heap.size]? = some (.cells #[.int .i64 201, .int .u32 0, .int .i64 0] 54 (0, 0)) ∧ Below W2.heap.size W2 w5 ∧ w5.cell? ⟨w.heap.size, 3, none⟩ = some (.slice Ab m.Shards.length cb)) := ⟨fun w5 v5 h q => ⟨own_low h (by simp), bblk q (heap_alloc_new W2.drew _), bthen bl2 bl2.size q, bcell q ((bcell bl2 hk))⟩⟩
      clear bl1 bl2
      go_region_held3 (fun w' => w'.cell? ⟨w.heap.size, 3, none⟩ = some (.slice Ab m.Shards.length cb)) (first | (go_keep; done) | exact set_far (by show w.heap.size + 1 + 1 ≠ w.heap.size; omega) (by assumption))
        (first
          | (go_at_call 48; refine HI1.out.mono ?_; rintro e w5 ⟨v5, rfl, ho5, B5⟩; obtain ⟨ho, hx, hb5, k5⟩ := HN1.out _ _ ho5 B5; have HO := Aside.mk ho; have HX := Aside.mk hx; have HB := Aside.mk hb5; obtain ⟨A5, n5, c5, rfl⟩ := own_slice ho; clear ho5 B5 ho hx hb5)
          | (go_at_call 48; refine HI2.out.mono ?_; rintro e w5 ⟨v5, rfl, ho5, B5⟩; obtain ⟨ho, hx, hb5, k5⟩ := HN2.out _ _ ho5 B5; have HO := Aside.mk ho; have HX := Aside.mk hx; have HB := Aside.mk hb5; obtain ⟨A5, n5, c5, rfl⟩ := own_slice ho; clear ho5 B5 ho hx hb5)
          | (refine step_append_lies _ (by rfl) _ _ _ (by rfl) W2.heap.size 54 fi _ 3 24 Tryz.underlying31 (by assumption) (by assumption) (by assumption) (by assumption) rfl (by decide) _ m.Shards.length (infoCells m.Shards) (by rfl) HO.out ⟨_, 0, none⟩ 1 1 [.int .i64 201, .int .u32 0, .int .i64 0] (by rfl) (by rfl) (World.news_of_block HX.out) (by simp [Value.oneCell']) (by decide) (by simp only [maxLen]; omega) (by omega) HB.out.size _ rfl ?_; intro g cap w6 hown hg hat hlt; have HB6 := Aside.mk (HB.out.grown hg HB.out.size fun q e => (HO.out.lt q e).1); have hcap := own_cap hown; have HS := Aside.mk (lent_step (j := 3) HL2.out HB6.out hown rfl); have q1 : (0 : Int) ≤ (m.Shards.length : Int) := Int.natCast_nonneg _; have q2 : (m.Shards.length : Int) ≤ (cap : Int) := Int.ofNat_le.2 (Nat.le_trans (Nat.le_succ _) hcap.1); have c6 := bblk HB6.out HL2.out.cb; have c7 := store_at c6 3 (show 3 < 5 by decide); obtain ⟨c7, c8, c9⟩ := c7; have k6 := bcell HB6.out hk; clear hown hg hat hlt))
      all_goals (go_wp2; go_meet; case rel => exact ⟨_, ⟨HS.out.1⟩, ⟨HS.out.2.1⟩, ⟨HS.out.2.2.1⟩, ⟨HS.out.2.2.2.1⟩, ⟨HS.out.2.2.2.2⟩⟩)
    case rest =>
      obtain ⟨v3, HL3, HR3, HK3, HS3, HT3⟩ := hcut
      obtain ⟨W3, rfl⟩ : ∃ W3, W3 = wc := ⟨_, rfl⟩
      go_upto_region 4 with (fail)
      go_cut [] (fun wx => ∃ v4, Aside (LInv w wx w.heap.size (w.heap.size + 1 + 1) #[.int .i64 m.Gen, .int .i64 m.N, .slice Aa m.Cuts.length ca, .slice Ab m.Shards.length cb, .slice Ac m.Degrees.length cc] #[.int .i64 m.Gen, .int .i64 m.N, v2, v3, v4]) ∧
          Aside (LRw wx W3.heap.size wx.heap.size 3 1 v4 m.Degrees.length (ints m.Degrees ++ [.int .i64 201])) ∧ Aside (∀ q, q < W3.heap.size → q ≠ w.heap.size + 1 + 1 → wx.heap[q]? = W3.heap[q]?) ∧ Aside (W3.heap.size ≤ wx.heap.size) ∧ Aside (w.heap.size + 1 + 1 < W3.heap.size))
      case first =>
        obtain ⟨hk, _, _⟩ := store_at HL3.out.mb 4 (show 4 < 5 by decide)
        have bl1 : Below W3.heap.size W3 W3.drew := bdrew1 (Below.refl _ _)
        have bl2 := bl1.alloc (Nat.le_refl _) (.cells #[.int .i64 201] 3)
        have HI1 := Aside.mk (Ints_any (H3.out.below (bthen HL3.out.bel HL3.out.bel.size bl1)) (by omega : m.Degrees.length ≤ 16777216))
        have HI2 := Aside.mk (Ints_any (H3.out.below (bthen HL3.out.bel HL3.out.bel.size bl2)) (by omega : m.Degrees.length ≤ 16777216))
        have HN1 : Aside (∀ w5 v5, w5.ownsRow W3.drew.heap.size 3 1 v5 m.Degrees.length (ints m.Degrees) → Below W3.drew.heap.size W3.drew w5 → (w5.alloc (.cells #[.int .i64 201] 3)).ownsRow W3.heap.size 3 1 v5 m.Degrees.length (ints m.Degrees) ∧ (w5.alloc (.cells #[.int .i64 201] 3)).heap[w5.heap.size]? = some (.cells #[.int .i64 201] 3 (0, 0)) ∧ Below W3.heap.size W3 (w5.alloc (.cells #[.int .i64 201] 3)) ∧ w5.cell? ⟨w.heap.size, 4, none⟩ = some (.slice Ac m.Degrees.length cc)) := ⟨fun w5 v5 h q => ⟨h.alloc _, heap_alloc_new _ _, (bl1.trans q).alloc q.size _, bcell q hk⟩⟩
        have HN2 : Aside (∀ w5 v5, w5.ownsRow (W3.drew.alloc (.cells #[.int .i64 201] 3)).heap.size 3 1 v5 m.Degrees.length (ints m.Degrees) → Below (W3.drew.alloc (.cells #[.int .i64 201] 3)).heap.size (W3.drew.alloc (.cells #[.int .i64 201] 3)) w5 → w5.ownsRow W3.heap.size 3 1 v5 m.Degrees.length (ints m.Degrees) ∧ w5.heap[W3.heap.size]? = some (.cells #[.int .i64 201] 3 (0, 0)) ∧ Below W3.heap.size W3 w5 ∧ w5.cell? ⟨w.heap.size, 4, none⟩ = some (.slice Ac m.Degrees.length cc)) := ⟨fun w5 v5 h q => ⟨own_low h (by simp), bblk q (heap_alloc_new W3.drew _), bthen bl2 bl2.size q, bcell q ((bcell bl2 hk))⟩⟩
        clear bl1 bl2
        go_region_held3 (fun w' => w'.cell? ⟨w.heap.size, 4, none⟩ = some (.slice Ac m.Degrees.length cc)) (first | (go_keep; done) | exact set_far (by show w.heap.size + 1 + 1 ≠ w.heap.size; omega) (by assumption))
          (first
            | (go_at_call 47; refine HI1.out.mono ?_; rintro e w5 ⟨v5, rfl, ho5, B5⟩; obtain ⟨ho, hx, hb5, k5⟩ := HN1.out _ _ ho5 B5; have HO := Aside.mk ho; have HX := Aside.mk hx; have HB := Aside.mk hb5; obtain ⟨A5, n5, c5, rfl⟩ := own_slice ho; clear ho5 B5 ho hx hb5)
            | (go_at_call 47; refine HI2.out.mono ?_; rintro e w5 ⟨v5, rfl, ho5, B5⟩; obtain ⟨ho, hx, hb5, k5⟩ := HN2.out _ _ ho5 B5; have HO := Aside.mk ho; have HX := Aside.mk hx; have HB := Aside.mk hb5; obtain ⟨A5, n5, c5, rfl⟩ := own_slice ho; clear ho5 B5 ho hx hb5)
            | (refine step_append_lies _ (by rfl) _ _ _ (by rfl) W3.heap.size 3 ii _ 1 8 Tryz.underlying30 (by assumption) (by assumption) (by assumption) (by assumption) rfl (by decide) _ m.Degrees.length (ints m.Degrees) (by rfl) HO.out ⟨_, 0, none⟩ 1 1 [.int .i64 201] (by rfl) (by rfl) (World.news_of_block HX.out) (by simp [Value.oneCell']) (by decide) (by simp only [maxLen]; omega) (by omega) HB.out.size _ rfl ?_; intro g cap w6 hown hg hat hlt; have HB6 := Aside.mk (HB.out.grown hg HB.out.size fun q e => (HO.out.lt q e).1); have hcap := own_cap hown; have HS := Aside.mk (lent_step (j := 4) HL3.out HB6.out hown rfl); have q1 : (0 : Int) ≤ (m.Degrees.length : Int) := Int.natCast_nonneg _; have q2 : (m.Degrees.length : Int) ≤ (cap : Int) := Int.ofNat_le.2 (Nat.le_trans (Nat.le_succ _) hcap.1); have c6 := bblk HB6.out HL3.out.cb; have c7 := store_at c6 4 (show 4 < 5 by decide); obtain ⟨c7, c8, c9⟩ := c7; have k6 := bcell HB6.out hk; clear hown hg hat hlt))
        all_goals (go_wp2; go_meet; case rel => exact ⟨_, ⟨HS.out.1⟩, ⟨HS.out.2.1⟩, ⟨HS.out.2.2.1⟩, ⟨HS.out.2.2.2.1⟩, ⟨HS.out.2.2.2.2⟩⟩)
      case rest =>
        obtain ⟨v4, HL4, HR4, HK4, HS4, HT4⟩ := hcut
        obtain ⟨W4, rfl⟩ : ∃ W4, W4 = wc := ⟨_, rfl⟩
        obtain ⟨g2, c2, rfl, _⟩ := id HR2.out
        obtain ⟨g3, c3, rfl, _⟩ := id HR3.out
        obtain ⟨g4, c4, rfl, _⟩ := id HR4.out
        have HP : Aside (LentPost w m (.returned (.agg #[.int .i64 m.Gen, .int .i64 m.N, .slice (some ⟨g2, 0, none⟩) m.Cuts.length c2, .slice (some ⟨g3, 0, none⟩) m.Shards.length c3, .slice (some ⟨g4, 0, none⟩) m.Degrees.length c4])) (st5 W4 (w.heap.size + 1) (.int .i64 m.Gen) (.int .i64 m.N) (.slice (some ⟨g2, 0, none⟩) m.Cuts.length c2) (.slice (some ⟨g3, 0, none⟩) m.Shards.length c3) (.slice (some ⟨g4, 0, none⟩) m.Degrees.length c4))) := ⟨_, _, _, W2.heap.size, W3.heap.size, rfl, HS3.out, by rw [st5_size]; exact HS4.out,
          (((HR2.out.keep fun q h1 h2 => HK3.out q h2 (by have := HT2.out; omega)).keep fun q h1 h2 => HK4.out q (by have := HS3.out; omega) (by have := HT2.out; omega)).keep fun q h1 h2 => st5_heap (by have := HT2.out; omega)).low HL.out.bel.size,
          (HR3.out.keep fun q h1 h2 => HK4.out q h2 (by have := HT3.out; omega)).keep fun q h1 h2 => st5_heap (by have := HT3.out; omega), by
            rw [st5_size]
            exact HR4.out.keep fun q h1 h2 => st5_heap (by have := HT4.out; omega), by
            have := HL4.out.bel
            exact ((((this.setCell (Nat.le_succ _) _).setCell (Nat.le_succ _) _).setCell (Nat.le_succ _) _).setCell (Nat.le_succ _) _).setCell (Nat.le_succ _) _⟩
        obtain ⟨k0, _, _⟩ := store_at HL4.out.cb 0 (show 0 < 5 by decide)
        obtain ⟨k1, _, _⟩ := store_at HL4.out.cb 1 (show 1 < 5 by decide)
        obtain ⟨k2, _, _⟩ := store_at HL4.out.cb 2 (show 2 < 5 by decide)
        obtain ⟨k3, _, _⟩ := store_at HL4.out.cb 3 (show 3 < 5 by decide)
        obtain ⟨k4, _, _⟩ := store_at HL4.out.cb 4 (show 4 < 5 by decide)
        obtain ⟨r0, f0, _⟩ := store_at HL4.out.rb 0 (show 0 < 5 by decide)
        obtain ⟨r1, f1, _⟩ := store_at HL4.out.rb 1 (show 1 < 5 by decide)
        obtain ⟨r2, f2, _⟩ := store_at HL4.out.rb 2 (show 2 < 5 by decide)
        obtain ⟨r3, f3, _⟩ := store_at HL4.out.rb 3 (show 3 < 5 by decide)
        obtain ⟨r4, f4, _⟩ := store_at HL4.out.rb 4 (show 4 < 5 by decide)
        have hcb := HL4.out.cb
        have hrb := HL4.out.rb
        have HRes := Aside.mk (st5_row (a := .int .i64 m.Gen) (b := .int .i64 m.N) (c := .slice (some ⟨g2, 0, none⟩) m.Cuts.length c2) (d := .slice (some ⟨g3, 0, none⟩) m.Shards.length c3) (e := .slice (some ⟨g4, 0, none⟩) m.Degrees.length c4) HL4.out.rb)
        go_wp2
        exact bodyPost_ret (results_cell_row rfl _ _ _ _ _ _ _ (by rfl) HRes.out Tryz.underlying33 rfl (by kernel_rfl)) rfl HP.out
set_option maxHeartbeats 1000000 in
theorem next_any {w : World} {a b c : Value} {g n : Int} {there : Bool} : Calls Tryz.prog 20 #[.agg #[.int .i64 g, .int .i64 n, a, b, c], .bool there] w fun e w' => e = .returned (.tuple #[.int .i64 (nextF g there).1, .int .i64 (nextF g there).2]) ∧ Below w.heap.size w w' := by
  have HB := Aside.mk ((Below.refl w.heap.size w).alloc (Nat.le_refl _) (.cells #[.int .i64 g, .int .i64 n, a, b, c] 33))
  cases there with
  | false =>
    go_enter Tryz.func20, Tryz.ntmps20
    go_wp2
    go_ret2
    exact ⟨rfl, HB.out⟩
  | true =>
    by_cases h : 2147483647 ≤ g
    · have HE : Aside (nextF g true = (0, 141)) := ⟨by simp [nextF, h]⟩
      go_enter Tryz.func20, Tryz.ntmps20
      go_wp2
      go_ret2
      exact ⟨by rw [HE.out]; rfl, HB.out⟩
    · have HE : Aside (nextF g true = (wrap64 (g + 1), 0)) := ⟨by simp [nextF, h]⟩
      replace h : g < 2147483647 := by omega
      go_enter Tryz.func20, Tryz.ntmps20
      go_wp2
      go_ret2
      exact ⟨by rw [HE.out]; rfl, HB.out⟩
set_option maxHeartbeats 1000000 in
theorem refNext_any {w : World} {a b c : Value} {g n : Int} {there : Bool} : Calls Tryz.prog 21 #[.agg #[.int .i64 g, .int .i64 n, a, b, c], .bool there] w fun e w' => e = .returned (.tuple #[.int .i64 (nextF g there).1, .int .i64 (nextF g there).2]) ∧ Below w.heap.size w w' := by
  have HB := Aside.mk ((Below.refl w.heap.size w).alloc (Nat.le_refl _) (.cells #[.int .i64 g, .int .i64 n, a, b, c] 33))
  cases there with
  | false =>
    go_enter Tryz.func21, Tryz.ntmps21
    go_wp2
    go_ret2
    exact ⟨rfl, HB.out⟩
  | true =>
    by_cases h : 2147483647 ≤ g
    · have HE : Aside (nextF g true = (0, 141)) := ⟨by simp [nextF, h]⟩
      go_enter Tryz.func21, Tryz.ntmps21
      go_wp2
      go_ret2
      exact ⟨by rw [HE.out]; rfl, HB.out⟩
    · have HE : Aside (nextF g true = (wrap64 (g + 1), 0)) := ⟨by simp [nextF, h]⟩
      replace h : g < 2147483647 := by omega
      go_enter Tryz.func21, Tryz.ntmps21
      go_wp2
      go_ret2
      exact ⟨by rw [HE.out]; rfl, HB.out⟩
end Go.Proofs.YtgbladpoglhleaaGreatDoor
