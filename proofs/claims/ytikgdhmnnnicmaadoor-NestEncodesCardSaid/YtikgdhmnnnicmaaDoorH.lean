/- graph.Make of pairs that may be: the graph with the sorted lists of neighbours. No condition. -/
import Derived.Test.YtikgdhmnnnicmaaDoorG
import Derived.WalkSmall
namespace Go.Proofs.YtikgdhmnnnicmaaDoor
open Go.RowKit
set_option maxHeartbeats 400000 in
set_option maxRecDepth 100000 in
theorem is_yes (v n : Int) (w : World) (h0 : 0 ≤ v) (h1 : v < n) : Calls Tryd.prog 26 #[.int .i64 v, .int .i64 n] w fun e w' => e = .returned (.bool true) ∧ w = w' := by
  have hd0 : decide (0 ≤ v) = true := by simpa using h0
  have hd1 : decide (v < n) = true := by simpa using h1
  go_enter Tryd.func26, Tryd.ntmps26
  go_wp2
  go_ret
  exact ⟨rfl, rfl⟩
set_option maxHeartbeats 400000 in
set_option maxRecDepth 100000 in
theorem is_no (v n : Int) (w : World) (h : v < 0 ∨ n ≤ v) : Calls Tryd.prog 26 #[.int .i64 v, .int .i64 n] w fun e w' => e = .returned (.bool false) ∧ w = w' := by
  by_cases h0 : 0 ≤ v
  · have h1 : n ≤ v := by omega
    have hd0 : decide (0 ≤ v) = true := by simpa using h0
    have hd1 : decide (v < n) = false := by simpa using h1
    go_enter Tryd.func26, Tryd.ntmps26
    go_wp2
    go_ret
    exact ⟨rfl, rfl⟩
  · have hd0 : decide (0 ≤ v) = false := by simpa using h0
    go_enter Tryd.func26, Tryd.ntmps26
    go_wp2
    go_ret
    exact ⟨rfl, rfl⟩
set_option maxHeartbeats 400000 in
set_option maxRecDepth 100000 in
theorem key_any (u v : Int) (w : World) : Calls Tryd.prog 27 #[.int .i64 u, .int .i64 v] w fun e w' => e = .returned (enc2 (min u v, max u v)) ∧ Below w.heap.size w w' := by
  go_enter Tryd.func27, Tryd.ntmps27
  go_wp2
  exact bodyPost_ret (v := enc2 (min u v, max u v)) (by simp [results, Tryd.results27, go_sem, enc2]) rfl ⟨rfl, (Below.refl _ _).alloc (Nat.le_refl _) _⟩
/-- The value of a graph: n vertices, with these lists of neighbours. -/
def GraphIs (w : World) (ok : Nat → Prop) (gv : Value) (n : Nat) (adj : List (List Int)) : Prop :=
  ∃ gb mv tv, gv = .pointer (some ⟨gb, 0, none⟩) ∧ ok gb ∧ w.heap[gb]? = some (.cells #[.int .i64 n, mv, tv] 81 (0, 0)) ∧ Sl (kslice kint) w ok tv adj
theorem GraphIs.below {w w' : World} {ok : Nat → Prop} {gv : Value} {n : Nat} {adj : List (List Int)} (h : GraphIs w ok gv n adj) (hb : Below w.heap.size w w') : GraphIs w' ok gv n adj := by
  obtain ⟨gb, mv, tv, rfl, h0, h1, h2⟩ := h
  exact ⟨gb, mv, tv, rfl, h0, bblk hb h1, h2.below hb⟩
theorem GraphIs.mono {w : World} {ok ok' : Nat → Prop} {gv : Value} {n : Nat} {adj : List (List Int)} (h : GraphIs w ok gv n adj) (hm : ∀ k, ok k → ok' k) : GraphIs w ok' gv n adj := by
  obtain ⟨gb, mv, tv, rfl, h0, h1, h2⟩ := h
  exact ⟨gb, mv, tv, rfl, hm _ h0, h1, h2.mono hm⟩
def edge (p : Pair) : Int × Int := (min p.U p.V, max p.U p.V)
/-- The edges that pairs make, as the map holds them. -/
def edgesOf (ps : List Pair) : List ((Int × Int) × Value) := ps.foldl (fun m p => if p.U = p.V then m else mput m (edge p) (.bool true)) []
theorem edgesOf_snoc (ps : List Pair) (p : Pair) : edgesOf (ps ++ [p]) = if p.U = p.V then edgesOf ps else mput (edgesOf ps) (edge p) (.bool true) := by simp [edgesOf]
/-- The lists of neighbours that pairs make among n vertices. -/
def adjOf (n : Nat) (ps : List Pair) : List (List Int) := (rowsOf n ((edgesOf ps).map (·.1))).map sorted
/-- What graph.Make hands back of pairs that may be. -/
def MakePost (w : World) (n : Nat) (ps : List Pair) (e : Ending) (w' : World) : Prop :=
  ∃ gv, e = .returned (.tuple #[gv, .int .i64 0]) ∧ Below w.heap.size w w' ∧ GraphIs w' (w.heap.size ≤ ·) gv n (adjOf n ps)
theorem mput_length (m : List ((Int × Int) × Value)) (x : Int × Int) (v : Value) : (mput m x v).length ≤ m.length + 1 := by
  unfold mput
  split <;> simp
theorem mem_mput {m : List ((Int × Int) × Value)} {x : Int × Int} {v : Value} {p : (Int × Int) × Value} (h : p ∈ mput m x v) : p.1 = x ∨ p ∈ m := by
  unfold mput at h
  split at h
  · obtain ⟨q, hq, rfl⟩ := List.mem_map.1 h
    split
    · exact .inl rfl
    · exact .inr hq
  · rcases List.mem_append.1 h with h | h
    · exact .inr h
    · simp at h; exact .inl (by rw [h])
theorem edges_length (ps : List Pair) : ∀ m : List ((Int × Int) × Value), (ps.foldl (fun m p => if p.U = p.V then m else mput m (edge p) (.bool true)) m).length ≤ m.length + ps.length := by
  induction ps with
  | nil => intro m; simp
  | cons p ps ih =>
    intro m
    simp only [List.foldl_cons, List.length_cons]
    split
    · have := ih m; omega
    · have := ih (mput m (edge p) (.bool true))
      have := mput_length m (edge p) (.bool true)
      omega
theorem edges_mem (ps : List Pair) (n : Nat) (hp : ∀ p ∈ ps, 0 ≤ p.U ∧ p.U < n ∧ 0 ≤ p.V ∧ p.V < n) : ∀ m : List ((Int × Int) × Value), (∀ e ∈ m, 0 ≤ e.1.1 ∧ e.1.1 < e.1.2 ∧ e.1.2 < n) →
    ∀ e ∈ ps.foldl (fun m p => if p.U = p.V then m else mput m (edge p) (.bool true)) m, 0 ≤ e.1.1 ∧ e.1.1 < e.1.2 ∧ e.1.2 < n := by
  induction ps with
  | nil => intro m hm; simpa using hm
  | cons p ps ih =>
    intro m hm
    simp only [List.foldl_cons]
    refine ih (fun q hq => hp q (List.mem_cons_of_mem _ hq)) _ ?_
    split
    · exact hm
    · intro e he
      rcases mem_mput he with h | h
      · obtain ⟨h0, h1, h2, h3⟩ := hp p (List.mem_cons_self ..)
        rw [h]
        simp only [edge]
        omega
      · exact hm e h
set_option maxHeartbeats 4000000 in
set_option maxRecDepth 100000 in
theorem Make_any {w : World} {ok : Nat → Prop} {v : Value} {ps : List Pair} (n : Nat) (hn : n ≤ 16777216) (hx : Sl kpair w ok v ps) (hl : ps.length ≤ 8796093022208) (hp : ∀ p ∈ ps, 0 ≤ p.U ∧ p.U < n ∧ 0 ≤ p.V ∧ p.V < n) :
    Calls Tryd.prog 14 #[.int .i64 n, v] w (MakePost w n ps) := by
  obtain ⟨A, c, rfl, hc, hm⟩ := hx.slice
  have Hx := Aside.mk hx
  clear hx
  have hmm := @run_makeMap Tryd.prog
  have hn1 : decide ((n : Int) > 16777216) = false := by simp; omega
  have hn2 : decide ((n : Int) < 0) = false := by simp
  have H0 : Aside (Below w.heap.size w (w.alloc (.map #[] 0))) := ⟨(Below.refl _ _).alloc (Nat.le_refl _) _⟩
  have HM0 := Aside.mk (MapIs.made enc2 w)
  go_enter Tryd.func14, Tryd.ntmps14
  go_wp2
  go_loopg [18] ps.length (fun kq iv wr => ∃ (k : Nat), Aside (k + kq = ps.length) ∧ iv = .int .i64 k ∧ Aside (MapIs enc2 wr w.heap.size (edgesOf (ps.take k))) ∧ Aside (Below w.heap.size w wr))
  case atStart => exact ⟨0, ⟨by omega⟩, rfl, HM0, H0⟩
  case round =>
    clear HM0 H0
    obtain ⟨k, HK, rfl, HM, HB⟩ := hrel
    by_cases hk : k < ps.length
    · obtain ⟨b, o, e, h1, h2⟩ := (Hx.out.below (HB.out.mono (Nat.le_refl _))).pair k hk
      cases e
      obtain ⟨hU0, hU1, hV0, hV1⟩ := hp ps[k] (List.getElem_mem hk)
      have HTk : Aside (edgesOf (ps.take (k + 1)) = if ps[k].U = ps[k].V then edgesOf (ps.take k) else mput (edgesOf (ps.take k)) (edge ps[k]) (.bool true)) :=
        ⟨by rw [List.take_succ_eq_append_getElem hk]; exact edgesOf_snoc _ _⟩
      have HE : Aside (edge ps[k] = (min ps[k].U ps[k].V, max ps[k].U ps[k].V)) := ⟨rfl⟩
      generalize ps[k].U = U at *
      generalize ps[k].V = V at *
      generalize edge ps[k] = E at *
      go_wp2_with fail
      refine (is_yes U n _ hU0 hU1).mono ?_
      rintro e w1 ⟨rfl, rfl⟩
      go_wp2_with fail
      refine (is_yes V n _ hV0 hV1).mono ?_
      rintro e w1 ⟨rfl, rfl⟩
      have HM1 := Aside.mk (HM.out.below ((Below.refl _ wr).alloc (Nat.le_refl _) (.cells #[.int .i64 U, .int .i64 V] 59)))
      have HB1 := Aside.mk (HB.out.alloc HB.out.size (.cells #[.int .i64 U, .int .i64 V] 59))
      by_cases he : U = V
      · subst he
        have hb : (U == U) = true := by simp
        have hb2 : (U != U) = false := by simp
        go_wp2_with fail
        go_roundg (ps.length - (k + 1))
        case measure => have := HK.out; omega
        case rel => exact ⟨k + 1, ⟨by omega⟩, by go_num, ⟨by rw [HTk.out]; simpa using HM1.out⟩, HB1⟩
      · have hb : (U == V) = false := by simpa using he
        have hb2 : (U != V) = true := by simpa using he
        go_wp2_with fail
        refine (key_any U V _).mono ?_
        rintro e w2 ⟨rfl, hb2⟩
        obtain ⟨w3, hrun, hm3, hg3, hs3⟩ := map_put keyPair (HM1.out.below hb2) (t := 57) Tryd.underlying57 (min U V, max U V) (.bool true)
        have HM3 := Aside.mk hm3
        have HB3 := Aside.mk ((HB1.out.trans (hb2.mono HB1.out.size)).grown hg3 (HB1.out.trans (hb2.mono HB1.out.size)).size (fun q e => by cases e; exact Nat.le_refl _))
        clear hm3 hg3 hs3 hb2
        go_wp2_with fail
        go_roundg (ps.length - (k + 1))
        case measure => have := HK.out; omega
        case rel => exact ⟨k + 1, ⟨by omega⟩, by go_num, ⟨by rw [HTk.out, if_neg he, HE.out]; exact HM3.out⟩, HB3⟩
    · have hkn : ps.take k = ps := List.take_of_length_le (by omega)
      have hm := HM.out
      rw [hkn] at hm
      have hlen : (edgesOf ps).length ≤ ps.length := by simpa [edgesOf] using edges_length ps []
      have hcon := of_any n w.heap.size (edgesOf ps) wr hm hn (by omega) (edges_mem ps n hp [] (by simp))
      replace hk : ps.length ≤ k := by omega
      have HF : Aside (∀ w', Below wr.heap.size wr w' → Below w.heap.size w w') := ⟨fun w' h => HB.out.trans (h.mono HB.out.size)⟩
      have HS := Aside.mk HB.out.size
      clear hlen hm hkn HM HB
      go_wp2_with fail
      refine hcon.mono ?_
      rintro e w' ⟨tv, rfl, h1, h2, h3⟩
      go_wp2_with fail
      go_ret2
      have hs := HS.out
      exact ⟨_, rfl, HF.out _ h1, _, _, _, rfl, by show w.heap.size ≤ _; omega, h2, h3.mono fun q hq => by omega⟩
end Go.Proofs.YtikgdhmnnnicmaaDoor
