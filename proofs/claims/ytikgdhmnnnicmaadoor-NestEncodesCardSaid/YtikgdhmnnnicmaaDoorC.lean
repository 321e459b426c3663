/- The sorting of roots by their least vertices: slices.SortFunc with the closure of level. No condition. -/
import Derived.Test.YtikgdhmnnnicmaaDoorU
namespace Go.Proofs.YtikgdhmnnnicmaaDoor
open Go.RowKit
set_option maxHeartbeats 1000000 in
set_option maxRecDepth 100000 in
theorem less_any {w : World} {xb fb lb n a b : Nat} {x y : Int} (hx : w.cell? ⟨xb, 0, none⟩ = some (.pointer (some ⟨fb, 0, none⟩))) (hf : w.cell? ⟨fb, 1, none⟩ = some (.slice (some ⟨lb, 0, none⟩) n n)) (ha : a < n) (hb : b < n)
    (ca : w.cell? ⟨lb, a, none⟩ = some (.int .i64 x)) (cb : w.cell? ⟨lb, b, none⟩ = some (.int .i64 y)) (h0 : 0 ≤ x) (h1 : x ≤ 16777216) (h2 : 0 ≤ y) (h3 : y ≤ 16777216) :
    Calls Tryd.prog 46 #[.int .i64 a, .int .i64 b, .pointer (some ⟨xb, 0, none⟩)] w fun e w' => e = .returned (.int .i64 (x - y)) ∧ ∃ q, w' = w.drewN q := by
  go_enter Tryd.func46, Tryd.ntmps46
  go_wp2
  go_quiet (fail)
  go_wp2
  go_ret
  exact ⟨rfl, _, rfl⟩
def sortBy (least L : List Int) : List Int := L.mergeSort fun a b => decide (least.getD a.toNat 0 ≤ least.getD b.toNat 0)
theorem sortBy_length (least L : List Int) : (sortBy least L).length = L.length := List.length_mergeSort _
open Go.Sort in
theorem putRow_sub {L : List Int} [Inhabited { r : Int // r ∈ L }] (w : World) (b : Nat) (d : Array { r : Int // r ∈ L }) :
    putRow (fun x : { r : Int // r ∈ L } => Value.int .i64 x.1) w b 0 d = putRow (Value.int .i64) w b 0 (d.map (·.1)) := by
  unfold putRow
  refine mapBlock_congr w b _ _ fun c e fr _ => ?_
  unfold putCells
  refine Array.ext (by simp) fun j h1 h2 => ?_
  simp only [Array.getElem_mapIdx, Array.size_map]
  split
  · rename_i h
    rw [getElem!_pos d _ (by omega), getElem!_pos (d.map (·.1)) _ (by rw [Array.size_map]; omega)]
    simp
  · rfl
set_option maxHeartbeats 1000000 in
open Go.Sort Go.Shelf in
theorem roots_sort {w : World} {xb fb lb n B : Nat} {v : Value} {F : Array Value} {tx tf : TypeId} {L least : List Int} (hbox : w.heap[xb]? = some (.cells #[.pointer (some ⟨fb, 0, none⟩)] tx (0, 0))) (hf : w.heap[fb]? = some (.cells F tf (0, 0)))
    (hF : F[1]? = some (.slice (some ⟨lb, 0, none⟩) n n)) (hl : w.heap[lb]? = some (.cells (ints least).toArray 3 (0, 0))) (hn : least.length = n) (hL : ∀ r ∈ L, 0 ≤ r ∧ r < n) (hb : ∀ r ∈ L, 0 ≤ least.getD r.toNat 0 ∧ least.getD r.toNat 0 ≤ 16777216)
    (hinj : ∀ a ∈ L, ∀ b ∈ L, least.getD a.toNat 0 = least.getD b.toNat 0 → a = b) (ho : w.ownsRow B 3 1 v L.length (ints L)) (hne : ∀ k, v.ownBlock = some k → k ≠ xb ∧ k ≠ fb ∧ k ≠ lb) (hlen : L.length < 4611686018427387904) :
    Calls Tryd.prog 45 #[v, .func (.func 46) #[] #[.pointer (some ⟨xb, 0, none⟩)]] w fun e w' =>
      e = .returned (.tuple #[]) ∧ w'.ownsRow B 3 1 v (sortBy least L).length (ints (sortBy least L)) ∧ w.grownBy w' v.ownBlock := by
  rcases ho.2 with ⟨rfl, hnn⟩ | ⟨g, cap, cur, rfl, hgB, hg, h1, h2, h3, h4⟩
  · obtain rfl := List.eq_nil_of_length_eq_zero hnn
    refine (Tryd.slices_SortFunc_none (α := Int) none 0 _ w).mono ?_
    rintro e w' ⟨rfl, rfl⟩
    refine ⟨rfl, ?_, ⟨rfl, rfl, rfl, Nat.le_refl _, fun _ _ _ => rfl⟩⟩
    have : sortBy least [] = [] := by simp [sortBy]
    rw [this]
    exact World.ownsRow_nil _ _ _ _
  · by_cases h0 : L = []
    · subst h0
      refine (Tryd.slices_SortFunc_none (α := Int) (some ⟨g, 0, none⟩) cap _ w).mono ?_
      rintro e w' ⟨rfl, rfl⟩
      refine ⟨rfl, ?_, ⟨rfl, rfl, rfl, Nat.le_refl _, fun _ _ _ => rfl⟩⟩
      have : sortBy least [] = [] := by simp [sortBy]
      rw [this]
      exact ho
    · obtain ⟨r0, hr0⟩ := List.exists_mem_of_ne_nil L h0
      haveI : Inhabited { r : Int // r ∈ L } := ⟨⟨r0, hr0⟩⟩
      obtain ⟨n1, n2, n3⟩ := hne g rfl
      let cf : { r : Int // r ∈ L } → { r : Int // r ∈ L } → Int := fun x y => least.getD x.1.toNat 0 - least.getD y.1.toNat 0
      have lt_iff : ∀ x y, ltOf cf x y = decide (least.getD x.1.toNat 0 < least.getD y.1.toNat 0) := fun x y => by
        unfold ltOf
        simp only [cf]
        by_cases h : least.getD x.1.toNat 0 < least.getD y.1.toNat 0
        · rw [decide_eq_true h, decide_eq_true (by omega)]
        · rw [decide_eq_false h, decide_eq_false (by omega)]
      have hO : SWO (ltOf cf) := {
        irrefl := fun x => by rw [lt_iff]; simp
        trans := fun x y z a b => by rw [lt_iff] at *; simp only [decide_eq_true_eq] at *; omega
        ntrans := fun x y z a b => by rw [lt_iff] at *; simp only [decide_eq_false_iff_not] at *; omega }
      have hT : ∀ x y, (ltOf cf) x y = false → (ltOf cf) y x = false → x = y := fun x y a b => by
        rw [lt_iff] at a b
        simp only [decide_eq_false_iff_not] at a b
        exact Subtype.ext (hinj x.1 x.2 y.1 y.2 (by omega))
      have hsz : L.attach.toArray.size = L.length := by simp
      have hH : Holds (fun x : { r : Int // r ∈ L } => Value.int .i64 x.1) w g 0 L.attach.toArray := by
        intro j hj
        have hj' : j < L.length := by simpa using hj
        refine ⟨?_, by simp [World.frozen?, hg]⟩
        have hc := ho.cells (g := g) rfl j (.int .i64 L[j]) (by simp [ints, hj'])
        rw [addr_add] at hc
        rw [getElem!_pos L.attach.toArray j hj]
        simpa using hc
      have hcmp : CmpLays1 Tryd.prog 46 #[.pointer (some ⟨xb, 0, none⟩)] (fun x : { r : Int // r ∈ L } => Value.int .i64 x.1) cf g 0 L.attach.toArray.size w := by
        intro m os dk hdk x y
        obtain ⟨hx0, hx1⟩ := hL x.1 x.2
        obtain ⟨hy0, hy1⟩ := hL y.1 y.2
        obtain ⟨hxl0, hxl1⟩ := hb x.1 x.2
        obtain ⟨hyl0, hyl1⟩ := hb y.1 y.2
        have keep : ∀ (k : Nat) (o : Obj), w.heap[k]? = some o → k ≠ g → (sortWorld (fun x : { r : Int // r ∈ L } => Value.int .i64 x.1) w g 0 m dk os).heap[k]? = some o := fun k o ho hk => by
          have h5 := grownBy_sortedI (w := w) (g := g) (n := m) (os := os) (dk.map (·.1))
          rw [← putRow_sub] at h5
          exact (h5.block k (blk_lt ho) (fun e => hk (Option.some.inj e))).trans ho
        have kx := keep xb _ hbox (Ne.symm n1)
        have kf := keep fb _ hf (Ne.symm n2)
        have kl := keep lb _ hl (Ne.symm n3)
        have hxn : x.1.toNat < n := by omega
        have hyn : y.1.toNat < n := by omega
        have e1 : (x.1 : Int) = ((x.1.toNat : Nat) : Int) := by omega
        have e2 : (y.1 : Int) = ((y.1.toNat : Nat) : Int) := by omega
        have hcon := less_any (w := sortWorld (fun x : { r : Int // r ∈ L } => Value.int .i64 x.1) w g 0 m dk os) (xb := xb) (fb := fb) (lb := lb) (n := n) (a := x.1.toNat) (b := y.1.toNat) (cell_blk kx rfl) (cell_blk kf hF) hxn hyn
          (blk_int kl _ (by omega)).1 (blk_int kl _ (by omega)).1 hxl0 hxl1 hyl0 hyl1
        rw [← e1, ← e2] at hcon
        have hcf : least.getD x.1.toNat 0 - least.getD y.1.toNat 0 = cf x y := rfl
        rw [hcf] at hcon
        clear hcf e1 e2 kx kf kl keep
        revert hcon
        generalize sortWorld (fun x : { r : Int // r ∈ L } => Value.int .i64 x.1) w g 0 m dk os = W
        intro hcon
        exact hcon.mono fun e w' h => ⟨h.1, h.2.elim fun q hq => ⟨q, #[], by rw [hq, grow_empty]⟩⟩
      have hcon := Tryd.slices_SortFunc_total (fun x : { r : Int // r ∈ L } => Value.int .i64 x.1) (fun _ => rfl) cf hO 46 #[.pointer (some ⟨xb, 0, none⟩)] g 0 cap L.attach.toArray w (enters_of Tryd.func46 (by kernel_rfl) rfl) hcmp hH (blk_lt hg) (by rw [hsz]; exact hlen) hT
      rw [hsz] at hcon
      refine hcon.mono ?_
      rintro e w' ⟨rfl, m, os, rfl⟩
      have hmap : ((L.attach.mergeSort fun x y => !(ltOf cf) y x).toArray.map (·.1)) = (sortBy least L).toArray := by
        rw [List.map_toArray]
        congr 1
        unfold sortBy
        rw [List.map_mergeSort (s := fun a b => decide (least.getD a.toNat 0 ≤ least.getD b.toNat 0)) (fun a _ b _ => by
          rw [lt_iff]
          by_cases h : least.getD a.1.toNat 0 ≤ least.getD b.1.toNat 0
          · rw [decide_eq_true h, decide_eq_false (by omega)]; rfl
          · rw [decide_eq_false h, decide_eq_true (by omega)]; rfl)]
        rw [List.attach_map_subtype_val]
      unfold sortWorld
      rw [putRow_sub, hmap]
      refine ⟨rfl, ?_, grownBy_sortedI _⟩
      rw [sortBy_length]
      exact ownsRow_sortedI (ss := L) (ts := sortBy least L) (sortBy_length _ _) hgB hg h1 h2 (by simpa using h3)
end Go.Proofs.YtikgdhmnnnicmaaDoor
