/- The ground of this seat's proofs: how lists lie in memory, what a call keeps, one append. No condition. -/
import Derived.Test.YtjncnppbaldmiaaGreatDoorProg
import Derived.WalkKit
import Derived.WalkSpells
import Derived.WalkLawsBesides
import Derived.BigRegion
import Derived.BigQuiet
import Derived.StillTailTactics
import Derived.Deep.LoopGhost
import Derived.Maps.AppendAt
import Derived.Deep.AppendLies
import Derived.Deep.DeepCutAuto
import Derived.RowKit3
import Derived.Deep.RegionLaw
import Derived.Deep.RegionHeld3
import Derived.Deep.OwnRows
namespace Go.Proofs.YtjncnppbaldmiaaGreatDoor
open Go.RowKit

/-- A fact that the walk's simp does not look into. -/
structure Aside (p : Prop) : Prop where mk :: (out : p)
/-- The world is the old one, some orders having been drawn. -/
structure Same (w w' : World) : Prop where mk :: (out : ∃ n, w' = w.drewN n)
theorem Same.refl (w : World) : Same w w := ⟨⟨0, rfl⟩⟩
theorem Same.step {w w' : World} (h : Same w w') (n : Nat) : Same w (w'.drewN n) := by
  obtain ⟨m, rfl⟩ := h
  exact ⟨⟨m + n, World.drewN_drewN ..⟩⟩
theorem Same.below {w w' : World} (h : Same w w') (B : Nat) : Below B w w' := by
  obtain ⟨n, rfl⟩ := h
  exact ⟨rfl, rfl, rfl, Nat.le_refl _, fun _ _ => rfl⟩
theorem bdrew {B : Nat} {w W : World} (h : Below B w W) (n : Nat) : Below B w (W.drewN n) := ⟨h.os, h.tape, h.output, h.size, h.block⟩
theorem bdrew1 {B : Nat} {w W : World} (h : Below B w W) : Below B w W.drew := ⟨h.os, h.tape, h.output, h.size, h.block⟩
/-- What kept all of the middle world kept what the first one had. -/
theorem bthen {B : Nat} {w w1 w2 : World} (h : Below B w w1) (hB : B ≤ w1.heap.size) (k : Below w1.heap.size w1 w2) : Below B w w2 :=
  h.trans (k.mono hB)
theorem bcell {w w1 : World} (h : Below w.heap.size w w1) {a : Addr} {v : Value} (hc : w.cell? a = some v) : w1.cell? a = some v :=
  (h.cell (World.block_lt_of_cell? w a hc)).trans hc
theorem bblk {w w1 : World} (h : Below w.heap.size w w1) {g : Nat} {o : Obj} (hc : w.heap[g]? = some o) : w1.heap[g]? = some o :=
  (h.block g (Array.getElem?_eq_some_iff.1 hc).1).trans hc
theorem blk_lt {w : World} {g : Nat} {o : Obj} (h : w.heap[g]? = some o) : g < w.heap.size := (Array.getElem?_eq_some_iff.1 h).1

theorem addr_add (g o j : Nat) : (⟨g, o, none⟩ : Addr).add j = ⟨g, o + j, none⟩ := by unfold Addr.add; split <;> simp_all
/-- Are the two the same? (A name that the walk's simp leaves alone.) -/
def eqB {α : Type} [DecidableEq α] (x y : α) : Bool := decide (x = y)
theorem eqB_yes {α : Type} [DecidableEq α] {x y : α} (h : x = y) : eqB x y = true := decide_eq_true h
theorem eqB_no {α : Type} [DecidableEq α] {x y : α} (h : x ≠ y) : eqB x y = false := decide_eq_false h
theorem eqB_iff {α : Type} [DecidableEq α] {x y : α} : eqB x y = true ↔ x = y := decide_eq_true_iff
theorem retb {a b : Bool} (h : b = a) : Ending.returned (.bool a) = .returned (.bool b) := by rw [h]
theorem reti {k : IntKind} {a b : Int} (h : b = a) : Ending.returned (.int k a) = .returned (.int k b) := by rw [h]
theorem natEq {a b : Nat} (h : a = b) : ((a : Int) == (b : Int)) = true ∧ ((a : Int) != (b : Int)) = false ∧ (a == b) = true ∧ (a != b) = false := by simp [h]
theorem natNe {a b : Nat} (h : a ≠ b) : ((a : Int) == (b : Int)) = false ∧ ((a : Int) != (b : Int)) = true ∧ (a == b) = false ∧ (a != b) = true := by
  have : (a : Int) ≠ b := by omega
  simp [h, this]
/-! ### how elements lie in cells -/
/-- R w ok x cs: the cells cs say x in the world w; all blocks that this reads are ok. -/
structure Kind (α : Type) where
  sz : Nat
  R : World → (Nat → Prop) → α → List Value → Prop
  len : ∀ {w ok x cs}, R w ok x cs → cs.length = sz
  one : ∀ {w ok x cs}, R w ok x cs → ∀ u ∈ cs, u.oneCell' = true
  mono : ∀ {w ok ok' x cs}, (∀ k, ok k → ok' k) → R w ok x cs → R w ok' x cs
  bound : ∀ {w ok x cs}, R w ok x cs → R w (fun k => ok k ∧ k < w.heap.size) x cs
  move : ∀ {w w' : World} {ok x cs}, (∀ k, ok k → w'.heap[k]? = w.heap[k]?) → R w ok x cs → R w' ok x cs

/-- The value v is a slice that reads as xs. -/
def Sl {α : Type} (K : Kind α) (w : World) (ok : Nat → Prop) (v : Value) (xs : List α) : Prop :=
  ∃ A c, v = .slice A xs.length c ∧ xs.length ≤ c ∧ c ≤ 9223372036854775807 ∧
    (0 < xs.length → ∃ b o, A = some ⟨b, o, none⟩ ∧ ok b ∧ b < w.heap.size ∧ ∀ i x, xs[i]? = some x → ∃ cs, K.R w ok x cs ∧ ∀ j u, cs[j]? = some u → w.cell? ⟨b, o + i * K.sz + j, none⟩ = some u)

section
variable {α : Type} {K : Kind α} {w w' : World} {ok ok' : Nat → Prop} {v : Value} {xs : List α}
theorem Sl.mono (hm : ∀ k, ok k → ok' k) (h : Sl K w ok v xs) : Sl K w ok' v xs := by
  obtain ⟨A, c, rfl, h1, h2, h3⟩ := h
  refine ⟨A, c, rfl, h1, h2, fun hl => ?_⟩
  obtain ⟨b, o, e, h4, h5, h6⟩ := h3 hl
  exact ⟨b, o, e, hm _ h4, h5, fun i x hx => let ⟨cs, p, q⟩ := h6 i x hx; ⟨cs, K.mono hm p, q⟩⟩
theorem Sl.bound (h : Sl K w ok v xs) : Sl K w (fun k => ok k ∧ k < w.heap.size) v xs := by
  obtain ⟨A, c, rfl, h1, h2, h3⟩ := h
  refine ⟨A, c, rfl, h1, h2, fun hl => ?_⟩
  obtain ⟨b, o, e, h4, h5, h6⟩ := h3 hl
  exact ⟨b, o, e, ⟨h4, h5⟩, h5, fun i x hx => let ⟨cs, p, q⟩ := h6 i x hx; ⟨cs, K.bound p, q⟩⟩
theorem Sl.move (hm : ∀ k, ok k → w'.heap[k]? = w.heap[k]?) (h : Sl K w ok v xs) : Sl K w' ok v xs := by
  obtain ⟨A, c, rfl, h1, h2, h3⟩ := h
  refine ⟨A, c, rfl, h1, h2, fun hl => ?_⟩
  obtain ⟨b, o, e, h4, h5, h6⟩ := h3 hl
  refine ⟨b, o, e, h4, ?_, fun i x hx => ?_⟩
  · have := hm b h4
    rw [Array.getElem?_eq_getElem h5] at this
    exact blk_lt this
  · obtain ⟨cs, p, q⟩ := h6 i x hx
    exact ⟨cs, K.move hm p, fun j u hu => (World.cell?_of_block (w := w) (w' := w') (hm b h4)).trans (q j u hu)⟩
/-- Whatever keeps the blocks that are ok and were there. -/
theorem Sl.step (h : Sl K w ok v xs) (hm : ∀ k, ok k → k < w.heap.size → w'.heap[k]? = w.heap[k]?) : Sl K w' ok v xs :=
  Sl.mono (fun _ hk => hk.1) (Sl.move (fun k hk => hm k hk.1 hk.2) h.bound)
theorem Sl.below (h : Sl K w ok v xs) (hb : Below w.heap.size w w') : Sl K w' ok v xs := h.step fun k _ hk => hb.block k hk
theorem Kind.step (K : Kind α) {x : α} {cs : List Value} (h : K.R w ok x cs) (hm : ∀ k, ok k → k < w.heap.size → w'.heap[k]? = w.heap[k]?) : K.R w' ok x cs :=
  K.mono (fun _ hk => hk.1) (K.move (fun k hk => hm k hk.1 hk.2) (K.bound h))
theorem Sl.nil (K : Kind α) (w : World) (ok : Nat → Prop) : Sl K w ok (.slice none 0 0) [] := ⟨none, 0, rfl, Nat.le_refl _, by decide, fun h => absurd h (Nat.lt_irrefl 0)⟩
theorem Sl.slice (h : Sl K w ok v xs) : ∃ A c, v = .slice A xs.length c ∧ xs.length ≤ c ∧ c ≤ 9223372036854775807 := let ⟨A, c, e, a, b, _⟩ := h; ⟨A, c, e, a, b⟩
/-- The cells of one element. -/
theorem Sl.at {A : Option Addr} {n c : Nat} (h : Sl K w ok (.slice A n c) xs) (i : Nat) (hi : i < xs.length) :
    ∃ b o cs, A = some ⟨b, o, none⟩ ∧ ok b ∧ b < w.heap.size ∧ K.R w ok xs[i] cs ∧ ∀ j u, cs[j]? = some u → w.cell? ⟨b, o + i * K.sz + j, none⟩ = some u := by
  obtain ⟨A', c', e, h1, h2, h3⟩ := h
  cases e
  obtain ⟨b, o, e, h4, h5, h6⟩ := h3 (by omega)
  obtain ⟨cs, p, q⟩ := h6 i xs[i] (List.getElem?_eq_getElem hi)
  exact ⟨b, o, cs, e, h4, h5, p, q⟩
end

/-- Elements without memory of their own. -/
def flat {α : Type} (sz : Nat) (enc : α → List Value) (hl : ∀ x, (enc x).length = sz) (h1 : ∀ x, ∀ u ∈ enc x, u.oneCell' = true) : Kind α where
  sz := sz
  R := fun _ _ x cs => cs = enc x
  len := fun h => by rw [h]; exact hl _
  one := fun h => by rw [h]; exact h1 _
  mono := fun _ h => h
  bound := fun h => h
  move := fun _ h => h
def kint : Kind Int := flat 1 (fun x => [.int .i64 x]) (fun _ => rfl) (by simp [Value.oneCell'])
def kbool : Kind Bool := flat 1 (fun x => [.bool x]) (fun _ => rfl) (by simp [Value.oneCell'])
def kbyte : Kind UInt8 := flat 1 (fun x => [.int .u8 x.toNat]) (fun _ => rfl) (by simp [Value.oneCell'])
structure Pair where
  U : Int
  V : Int
  deriving DecidableEq
structure Node where
  K : Int
  Least : Int
  Size : Int
  Parent : Int
  deriving DecidableEq
def kpair : Kind Pair := flat 2 (fun x => [.int .i64 x.U, .int .i64 x.V]) (fun _ => rfl) (by simp [Value.oneCell'])
def knode : Kind Node := flat 4 (fun x => [.int .i64 x.K, .int .i64 x.Least, .int .i64 x.Size, .int .i64 x.Parent]) (fun _ => rfl) (by simp [Value.oneCell'])
/-- A slice as an element. -/
def kslice {α : Type} (K : Kind α) : Kind (List α) where
  sz := 1
  R := fun w ok xs cs => ∃ v, cs = [v] ∧ Sl K w ok v xs
  len := by rintro w ok x cs ⟨v, rfl, _⟩; rfl
  one := by
    rintro w ok x cs ⟨v, rfl, A, c, rfl, _⟩ u hu
    rw [List.mem_singleton.1 hu]; rfl
  mono := by rintro w ok ok' x cs hm ⟨v, rfl, h⟩; exact ⟨v, rfl, h.mono hm⟩
  bound := by rintro w ok x cs ⟨v, rfl, h⟩; exact ⟨v, rfl, h.bound⟩
  move := by rintro w w' ok x cs hm ⟨v, rfl, h⟩; exact ⟨v, rfl, h.move hm⟩

section
variable {w : World} {ok : Nat → Prop} {A : Option Addr} {n c : Nat}
theorem Sl.int {xs : List Int} (h : Sl kint w ok (.slice A n c) xs) (i : Nat) (hi : i < xs.length) : ∃ b o, A = some ⟨b, o, none⟩ ∧ w.cell? ⟨b, o + i, none⟩ = some (.int .i64 xs[i]) := by
  obtain ⟨b, o, cs, e, _, _, rfl, q⟩ := h.at i hi
  exact ⟨b, o, e, by simpa [kint, flat] using q 0 _ rfl⟩
theorem Sl.bool {xs : List Bool} (h : Sl kbool w ok (.slice A n c) xs) (i : Nat) (hi : i < xs.length) : ∃ b o, A = some ⟨b, o, none⟩ ∧ w.cell? ⟨b, o + i, none⟩ = some (.bool xs[i]) := by
  obtain ⟨b, o, cs, e, _, _, rfl, q⟩ := h.at i hi
  exact ⟨b, o, e, by simpa [kbool, flat] using q 0 _ rfl⟩
theorem Sl.byte {xs : List UInt8} (h : Sl kbyte w ok (.slice A n c) xs) (i : Nat) (hi : i < xs.length) : ∃ b o, A = some ⟨b, o, none⟩ ∧ w.cell? ⟨b, o + i, none⟩ = some (.int .u8 xs[i].toNat) := by
  obtain ⟨b, o, cs, e, _, _, rfl, q⟩ := h.at i hi
  exact ⟨b, o, e, by simpa [kbyte, flat] using q 0 _ rfl⟩
theorem Sl.pair {xs : List Pair} (h : Sl kpair w ok (.slice A n c) xs) (i : Nat) (hi : i < xs.length) : ∃ b o, A = some ⟨b, o, none⟩ ∧
    w.cell? ⟨b, o + i * 2, none⟩ = some (.int .i64 xs[i].U) ∧ w.cell? ⟨b, o + i * 2 + 1, none⟩ = some (.int .i64 xs[i].V) := by
  obtain ⟨b, o, cs, e, _, _, rfl, q⟩ := h.at i hi
  exact ⟨b, o, e, by simpa [kpair, flat] using q 0 _ rfl, q 1 _ rfl⟩
theorem Sl.node {xs : List Node} (h : Sl knode w ok (.slice A n c) xs) (i : Nat) (hi : i < xs.length) : ∃ b o, A = some ⟨b, o, none⟩ ∧
    w.cell? ⟨b, o + i * 4, none⟩ = some (.int .i64 xs[i].K) ∧ w.cell? ⟨b, o + i * 4 + 1, none⟩ = some (.int .i64 xs[i].Least) ∧
    w.cell? ⟨b, o + i * 4 + 2, none⟩ = some (.int .i64 xs[i].Size) ∧ w.cell? ⟨b, o + i * 4 + 3, none⟩ = some (.int .i64 xs[i].Parent) := by
  obtain ⟨b, o, cs, e, _, _, rfl, q⟩ := h.at i hi
  exact ⟨b, o, e, by simpa [knode, flat] using q 0 _ rfl, q 1 _ rfl, q 2 _ rfl, q 3 _ rfl⟩
theorem Sl.row {α : Type} {K : Kind α} {xs : List (List α)} (h : Sl (kslice K) w ok (.slice A n c) xs) (i : Nat) (hi : i < xs.length) :
    ∃ b o v, A = some ⟨b, o, none⟩ ∧ w.cell? ⟨b, o + i, none⟩ = some v ∧ Sl K w ok v xs[i] := by
  obtain ⟨b, o, cs, e, _, _, ⟨v, rfl, hv⟩, q⟩ := h.at i hi
  exact ⟨b, o, v, e, by simpa [kslice] using q 0 _ rfl, hv⟩
end

/-! ### what the call itself makes -/
/-- v is a slice whose whole block, from block B on, is the call's own, and it reads as xs; the elements' own blocks are from B on, too, and are another than this one. -/
def Own {α : Type} (K : Kind α) (e : TypeId) (w : World) (B : Nat) (v : Value) (xs : List α) : Prop :=
  ∃ cells, w.ownsRow B e K.sz v xs.length cells ∧ ∀ i x, xs[i]? = some x → K.R w (fun k => B ≤ k ∧ some k ≠ v.ownBlock) x ((cells.drop (i * K.sz)).take K.sz)
section
variable {α : Type} {K : Kind α} {w w' : World} {e : TypeId} {B : Nat} {v : Value} {xs : List α}
theorem own_lt (h : Own K e w B v xs) : ∀ k, v.ownBlock = some k → B ≤ k ∧ k < w.heap.size := let ⟨_, h, _⟩ := h; h.lt
theorem Own.sl (h : Own K e w B v xs) : Sl K w (B ≤ ·) v xs := by
  obtain ⟨cells, h, hr⟩ := h
  rcases h.2 with ⟨rfl, hn⟩ | ⟨g, cap, cur, rfl, hb, hg, h1, h2, h3, h4⟩
  · obtain rfl := List.eq_nil_of_length_eq_zero hn
    exact Sl.nil _ _ _
  · refine ⟨_, cap, rfl, h1, by simp only [maxLen] at h2; omega, fun _ => ⟨g, 0, rfl, hb, blk_lt hg, fun i x hx => ⟨_, K.mono (fun k hk => hk.1) (hr i x hx), fun j u hu => ?_⟩⟩⟩
    have hc := h.cells (g := g) rfl (i * K.sz + j) u (by
      rw [List.getElem?_take] at hu
      split at hu
      · rwa [List.getElem?_drop] at hu
      · cases hu)
    rw [addr_add] at hc
    simpa using hc
theorem Own.nil (K : Kind α) (e : TypeId) (w : World) (B : Nat) : Own K e w B (.slice none 0 0) [] := ⟨[], World.ownsRow_nil _ _ _ _, by simp⟩
theorem Own.step (h : Own K e w B v xs) (hm : ∀ k, B ≤ k → k < w.heap.size → w'.heap[k]? = w.heap[k]?) : Own K e w' B v xs := by
  obtain ⟨cells, h, hr⟩ := h
  refine ⟨cells, ?_, fun i x hx => K.step (hr i x hx) fun k hk hlt => hm k hk.1 hlt⟩
  refine ⟨h.1, ?_⟩
  rcases h.2 with hn | ⟨g, cap, cur, rfl, hb, hg, h1⟩
  · exact .inl hn
  · exact .inr ⟨g, cap, cur, rfl, hb, (hm g hb (blk_lt hg)).trans hg, h1⟩
theorem Own.below (h : Own K e w B v xs) (hb : Below w.heap.size w w') : Own K e w' B v xs := h.step fun k _ hk => hb.block k hk
end

/-- append(v, x) of one element, which has just been boxed in a block of its own. -/
theorem app_one {P : Program} {ops : Array Oper} {rest : List Oper} {o : Oper} {a : Act} {Q : Exit → Act → World → Prop} {W : World} (B : Nat) (hgd : o.guard = none) (s x : Operand) (t e : TypeId) (z : Value) (size bytes : Nat)
    (ho : o.op = .call { callee := .builtin .append, args := #[s, x], argTypes := #[t, t] })
    (ht : P.underlying t = some (.slice e)) (hinfo : (P.info? e).map (fun i => (i.zero, i.size, i.bytes)) = some (some z, size, bytes)) (hz : z.cells.size = size) (hsz : 0 < size) (hb0 : 0 < bytes)
    (v : Value) (n : Nat) (xs ys : List Value) (hs : a.eval s = v) (hx : a.eval x = .slice (some ⟨W.heap.size, 0, none⟩) 1 1) (hy : ys.length = size) (h1 : ∀ u ∈ ys, u.oneCell' = true)
    (HO : W.ownsRow B e size v n xs) (hbase : B ≤ W.heap.size) (hl : (n + 1) * bytes ≤ 140737488355328)
    (h : ∀ v1 w1, w1.ownsRow B e size v1 (n + 1) (xs ++ ys) → W.grownBy w1 v.ownBlock → (v1.ownBlock = v.ownBlock ∨ v1.ownBlock = some (W.heap.size + 1)) → wpList P ops Q rest (a.put o.dst v1) w1) :
    wpList P ops Q (o :: rest) a (W.alloc (.cells ys.toArray e)) := by
  obtain ⟨i0, hi, hz0, hz1, hz2⟩ := info_parts hinfo
  have hlen : n + 1 ≤ 140737488355328 := Nat.le_trans (Nat.le_mul_of_pos_right _ hb0) hl
  refine wpList_append_own_at (W.alloc (.cells ys.toArray e)) hgd s x t ho B e i0 z size bytes ht hi hz0 hz1 hz2 hz hsz v n xs hs (HO.alloc _) ⟨W.heap.size, 0, none⟩ 1 1 ys hx (by omega)
    (World.news_of_block (cs := ys.toArray) (t := e) (fr := (0, 0)) (heap_alloc_new W _)) h1 (by simp only [maxLen]; omega) hl (by simp; omega) ?_
  intro v1 w1 hown hg _ hat
  exact h v1 w1 hown (World.grownBy.trans (World.grownBy_alloc W _ _) hg) (by simpa using hat)
/-- The appended row, as a list. -/
theorem own_snoc {α : Type} {K : Kind α} {W w1 : World} {e : TypeId} {B : Nat} {v v1 : Value} {xs : List α} {x : α} {cells ys : List Value}
    (h : W.ownsRow B e K.sz v xs.length cells) (hr : ∀ i x, xs[i]? = some x → K.R w1 (fun k => B ≤ k ∧ some k ≠ v1.ownBlock) x ((cells.drop (i * K.sz)).take K.sz))
    (h1 : w1.ownsRow B e K.sz v1 (xs.length + 1) (cells ++ ys)) (hx : K.R w1 (fun k => B ≤ k ∧ some k ≠ v1.ownBlock) x ys) : Own K e w1 B v1 (xs ++ [x]) := by
  refine ⟨cells ++ ys, by simpa using h1, fun i y hy => ?_⟩
  have hcl := h.1
  rcases Nat.lt_or_ge i xs.length with hi | hi
  · rw [List.getElem?_append_left hi] at hy
    have h2 : i * K.sz + K.sz ≤ cells.length := by rw [hcl, ← Nat.succ_mul]; exact Nat.mul_le_mul_right _ hi
    rw [List.drop_append_of_le_length (by omega), List.take_append_of_le_length (by simp; omega)]
    exact hr i y hy
  · rw [List.getElem?_append_right hi] at hy
    have h0 : i = xs.length := by
      rcases Nat.eq_zero_or_pos (i - xs.length) with h0 | h0
      · omega
      · rw [List.getElem?_eq_none (by simp; omega)] at hy; cases hy
    subst h0
    simp at hy
    subst hy
    rw [← hcl, List.drop_left, List.take_of_length_le (by rw [K.len hx]; exact Nat.le_refl _)]
    exact hx
/-- The builtin append under a name that simp does not open: 'attribute [local go_sem ↓] append_open' lets a region's walk meet it by an equation on its run. -/
def appSem (ts : Array TypeId) (ty : TypeId) (args : Array Value) : Sem Value := Builtin.append_ ts ty args
theorem append_open (ts : Array TypeId) (ty : TypeId) (args : Array Value) : Builtin.append_ ts ty args = appSem ts ty args := rfl
end Go.Proofs.YtjncnppbaldmiaaGreatDoor
