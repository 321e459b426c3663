/- The evaluator's memory beside the world's: what it means that one stands for the other; what becomes of it. No condition. -/
import Derived.Test.YtgbladpoglhleaaGreatDoorRun1
import Derived.Below
import Derived.Laws.Sem
import Derived.Laws.World
import Derived.Laws.Cells
namespace Go.Proofs.YtgbladpoglhleaaGreatDoor
namespace Ex
theorem beqF {n m : Nat} (h : n ≠ m) : Nat.beq n m = false := by
  cases e : Nat.beq n m with
  | false => rfl
  | true => exact absurd (Nat.eq_of_beq_eq_true e) h
theorem beqT {n m : Nat} (h : n = m) : Nat.beq n m = true := by subst h; exact Nat.beq_refl n
theorem bleT {n m : Nat} (h : n ≤ m) : Nat.ble n m = true := Nat.ble_eq_true_of_le h
theorem bleF {n m : Nat} (h : ¬ n ≤ m) : Nat.ble n m = false := by
  cases e : Nat.ble n m with
  | false => rfl
  | true => exact absurd (Nat.le_of_ble_eq_true e) h
section tr
variable {α : Type}
theorem Tr.get_set (x : Option α) : ∀ (f : Nat) (t : Tr α) (n m : Nat), n < f → (Tr.set x f t n).get m = if m = n then x else t.get m
  | 0, _, n, _, h => by omega
  | f + 1, t, n, m, h => by
    have key : ∀ (v : Option α) (l r : Tr α), (cond (Nat.beq n 0) (Tr.node x l r) (cond (Nat.beq (n % 2) 1) (.node v (Tr.set x f l (n / 2)) r) (.node v l (Tr.set x f r (n / 2 - 1))))).get m = if m = n then x else (Tr.node v l r).get m := by
      intro v l r
      by_cases h0 : n = 0
      · subst h0
        by_cases hm : m = 0
        · subst hm; simp [Tr.get]
        · simp [Tr.get, hm, beqF hm]
      · have e0 : Nat.beq n 0 = false := beqF h0
        by_cases h1 : n % 2 = 1
        · have e1 : Nat.beq (n % 2) 1 = true := beqT h1
          simp only [e0, e1, cond_false, cond_true, Tr.get]
          by_cases hm0 : m = 0
          · subst hm0; simp; omega
          · have f0 : Nat.beq m 0 = false := beqF hm0
            simp only [f0, cond_false]
            by_cases hm1 : m % 2 = 1
            · have f1 : Nat.beq (m % 2) 1 = true := beqT hm1
              simp only [f1, cond_true]
              rw [Tr.get_set x f l (n / 2) (m / 2) (by omega)]
              by_cases e : m = n
              · subst e; simp
              · rw [if_neg e, if_neg (by omega)]
            · have f1 : Nat.beq (m % 2) 1 = false := beqF hm1
              simp only [f1, cond_false]
              rw [if_neg (by intro e; subst e; exact hm1 h1)]
        · have e1 : Nat.beq (n % 2) 1 = false := beqF h1
          simp only [e0, e1, cond_false, Tr.get]
          by_cases hm0 : m = 0
          · subst hm0; simp; omega
          · have f0 : Nat.beq m 0 = false := beqF hm0
            simp only [f0, cond_false]
            by_cases hm1 : m % 2 = 1
            · have f1 : Nat.beq (m % 2) 1 = true := beqT hm1
              simp only [f1, cond_true]
              rw [if_neg (by intro e; subst e; exact h1 hm1)]
            · have f1 : Nat.beq (m % 2) 1 = false := beqF hm1
              simp only [f1, cond_false]
              rw [Tr.get_set x f r (n / 2 - 1) (m / 2 - 1) (by omega)]
              by_cases e : m = n
              · subst e; simp
              · rw [if_neg e, if_neg (by omega)]
    cases t with
    | leaf =>
      have := key none .leaf .leaf
      rw [show (Tr.node none (.leaf : Tr α) .leaf).get m = (Tr.leaf : Tr α).get m from by simp [Tr.get]] at this
      exact this
    | node v l r => exact key v l r
theorem Tr.get_put (t : Tr α) (n m : Nat) (x : Option α) : (t.put n x).get m = if m = n then x else t.get m :=
  Tr.get_set x (n + 1) t n m (Nat.lt_succ_self n)
end tr

/-- Which block of the world is the one of a number; how many cells it has, and of how many an element is; which numbers are in use. -/
structure K where
  p : Nat → Nat
  n : Nat → Nat
  s : Nat → Nat
  dom : Nat → Prop
def SlOk (κ : K) (b off len c off' cap' : Nat) : Prop :=
  len ≤ c / 2 ∧ ((c % 2 = 0 ∧ cap' = c / 2 ∧ off' = off) ∨ (c % 2 = 1 ∧ c / 2 ≤ cap' ∧ (0 < c / 2 → off' = off) ∧ off' + cap' * κ.s b ≤ κ.n b))
/-- A value of the evaluator's stands for one of the world's. -/
inductive VR (κ : K) : Value → Value → Prop
  | bool (b) : VR κ (.bool b) (.bool b)
  | int (k n) : VR κ (.int k n) (.int k n)
  | string (s) : VR κ (.string s) (.string s)
  | nilFunc : VR κ .nilFunc .nilFunc
  | nilIface : VR κ .nilIface .nilIface
  | ptrNil : VR κ (.pointer none) (.pointer none)
  | mapNil : VR κ (.map none) (.map none)
  | sliceNil : VR κ (.slice none 0 0) (.slice none 0 0)
  | ptr (b off) (h : κ.dom b) : VR κ (.pointer (some ⟨b, off, none⟩)) (.pointer (some ⟨κ.p b, off, none⟩))
  | slice (b off len c off' cap') (h : κ.dom b) (hs : SlOk κ b off len c off' cap') : VR κ (.slice (some ⟨b, off, none⟩) len c) (.slice (some ⟨κ.p b, off', none⟩) len cap')
  | map (r) (h : κ.dom r) : VR κ (.map (some r)) (.map (some (κ.p r)))
  | yield (l) (h : κ.dom l) : VR κ (.func (.yield l) #[] #[]) (.func (.yield (κ.p l)) #[] #[])
  | func (f) (xs ys xs' ys' : Array Value) (hx : xs.size = xs'.size) (h : ∀ (i : Nat) v v', xs[i]? = some v → xs'[i]? = some v' → VR κ v v')
      (hy : ys.size = ys'.size) (h2 : ∀ (i : Nat) v v', ys[i]? = some v → ys'[i]? = some v' → VR κ v v') : VR κ (.func (.func f) xs ys) (.func (.func f) xs' ys')
  | iface (t v v') (h : VR κ v v') : VR κ (.iface t v) (.iface t v')
  | agg (xs xs' : Array Value) (hx : xs.size = xs'.size) (h : ∀ (i : Nat) v v', xs[i]? = some v → xs'[i]? = some v' → VR κ v v') : VR κ (.agg xs) (.agg xs')
  | tuple (xs xs' : Array Value) (hx : xs.size = xs'.size) (h : ∀ (i : Nat) v v', xs[i]? = some v → xs'[i]? = some v' → VR κ v v') : VR κ (.tuple xs) (.tuple xs')
def LR (κ : K) (xs ys : List Value) : Prop := xs.length = ys.length ∧ ∀ (i : Nat) v v', xs[i]? = some v → ys[i]? = some v' → VR κ v v'

structure Ext (κ κ' : K) : Prop where
  dom : ∀ i, κ.dom i → κ'.dom i
  p : ∀ i, κ.dom i → κ'.p i = κ.p i
  n : ∀ i, κ.dom i → κ'.n i = κ.n i
  s : ∀ i, κ.dom i → κ'.s i = κ.s i
theorem Ext.refl (κ : K) : Ext κ κ := ⟨fun _ h => h, fun _ _ => rfl, fun _ _ => rfl, fun _ _ => rfl⟩
theorem Ext.trans {a b c : K} (h : Ext a b) (k : Ext b c) : Ext a c :=
  ⟨fun i hi => k.dom i (h.dom i hi), fun i hi => (k.p i (h.dom i hi)).trans (h.p i hi), fun i hi => (k.n i (h.dom i hi)).trans (h.n i hi), fun i hi => (k.s i (h.dom i hi)).trans (h.s i hi)⟩
theorem SlOk.ext {κ κ' : K} (e : Ext κ κ') {b off len c off' cap' : Nat} (hb : κ.dom b) (h : SlOk κ b off len c off' cap') : SlOk κ' b off len c off' cap' := by
  unfold SlOk at *; rw [e.s b hb, e.n b hb]; exact h
theorem VR.ext {κ κ' : K} (e : Ext κ κ') {v v' : Value} (h : VR κ v v') : VR κ' v v' := by
  induction h with
  | bool b => exact .bool b
  | int k n => exact .int k n
  | string s => exact .string s
  | nilFunc => exact .nilFunc
  | nilIface => exact .nilIface
  | ptrNil => exact .ptrNil
  | mapNil => exact .mapNil
  | sliceNil => exact .sliceNil
  | ptr b off h => rw [← e.p b h]; exact .ptr b off (e.dom b h)
  | slice b off len c off' cap' h hs => rw [← e.p b h]; exact .slice b off len c off' cap' (e.dom b h) (hs.ext e h)
  | map r h => rw [← e.p r h]; exact .map r (e.dom r h)
  | yield l h => rw [← e.p l h]; exact .yield l (e.dom l h)
  | func f xs ys xs' ys' hx _ hy _ ih1 ih2 => exact .func f xs ys xs' ys' hx ih1 hy ih2
  | iface t v v' _ ih => exact .iface t v v' ih
  | agg xs xs' hx _ ih => exact .agg xs xs' hx ih
  | tuple xs xs' hx _ ih => exact .tuple xs xs' hx ih
theorem LR.ext {κ κ' : K} (e : Ext κ κ') {xs ys : List Value} (h : LR κ xs ys) : LR κ' xs ys := ⟨h.1, fun i v v' a b => (h.2 i v v' a b).ext e⟩
theorem LR.nil (κ : K) : LR κ [] [] := ⟨rfl, fun _ _ _ h => by simp at h⟩
theorem LR.cons {κ : K} {x y : Value} {xs ys : List Value} (h : VR κ x y) (hs : LR κ xs ys) : LR κ (x :: xs) (y :: ys) := by
  refine ⟨by simp [hs.1], fun i v v' a b => ?_⟩
  cases i with
  | zero => simp at a b; subst a; subst b; exact h
  | succ i => exact hs.2 i v v' (by simpa using a) (by simpa using b)
theorem LR.cons_inv {κ : K} {x : Value} {xs zs : List Value} (h : LR κ (x :: xs) zs) : ∃ y ys, zs = y :: ys ∧ VR κ x y ∧ LR κ xs ys := by
  cases zs with
  | nil => have := h.1; simp at this
  | cons y ys => exact ⟨y, ys, rfl, h.2 0 x y rfl rfl, by simpa using h.1, fun i v v' a b => h.2 (i + 1) v v' (by simpa using a) (by simpa using b)⟩
theorem LR.nil_inv {κ : K} {zs : List Value} (h : LR κ [] zs) : zs = [] := by
  cases zs with
  | nil => rfl
  | cons y ys => have := h.1; simp at this
theorem LR.append {κ : K} {xs ys xs' ys' : List Value} (h : LR κ xs xs') (k : LR κ ys ys') : LR κ (xs ++ ys) (xs' ++ ys') := by
  refine ⟨by simp [h.1, k.1], fun i v v' a b => ?_⟩
  by_cases hi : i < xs.length
  · rw [List.getElem?_append_left hi] at a
    rw [List.getElem?_append_left (by rw [← h.1]; exact hi)] at b
    exact h.2 i v v' a b
  · rw [List.getElem?_append_right (by omega)] at a
    rw [List.getElem?_append_right (by rw [← h.1]; omega), ← h.1] at b
    exact k.2 _ v v' a b
theorem LR.drop {κ : K} {xs ys : List Value} (h : LR κ xs ys) (k : Nat) : LR κ (xs.drop k) (ys.drop k) :=
  ⟨by simp [h.1], fun i v v' a b => h.2 (k + i) v v' (by simpa [List.getElem?_drop] using a) (by simpa [List.getElem?_drop] using b)⟩
theorem LR.take {κ : K} {xs ys : List Value} (h : LR κ xs ys) (k : Nat) : LR κ (xs.take k) (ys.take k) := by
  refine ⟨by simp [h.1], fun i v v' a b => ?_⟩
  rw [List.getElem?_take] at a b
  split at a
  · rename_i hi; rw [if_pos hi] at b; exact h.2 i v v' a b
  · simp at a
theorem LR.get {κ : K} {xs ys : List Value} (h : LR κ xs ys) {i : Nat} {v : Value} (hv : xs[i]? = some v) : ∃ v', ys[i]? = some v' ∧ VR κ v v' := by
  have hi : i < ys.length := by rw [← h.1]; exact (List.getElem?_eq_some_iff.1 hv).1
  exact ⟨ys[i], List.getElem?_eq_getElem hi, h.2 i v _ hv (List.getElem?_eq_getElem hi)⟩
theorem LR.agg {κ : K} {xs ys : List Value} (h : LR κ xs ys) : VR κ (.agg xs.toArray) (.agg ys.toArray) :=
  .agg _ _ (by simpa using h.1) (fun i v v' a b => h.2 i v v' (by simpa using a) (by simpa using b))
theorem LR.tuple {κ : K} {xs ys : List Value} (h : LR κ xs ys) : VR κ (.tuple xs.toArray) (.tuple ys.toArray) :=
  .tuple _ _ (by simpa using h.1) (fun i v v' a b => h.2 i v v' (by simpa using a) (by simpa using b))
theorem LR.of_arr {κ : K} {xs ys : Array Value} (hx : xs.size = ys.size) (h : ∀ (i : Nat) v v', xs[i]? = some v → ys[i]? = some v' → VR κ v v') : LR κ xs.toList ys.toList :=
  ⟨by simpa using hx, fun i v v' a b => h i v v' (by simpa using a) (by simpa using b)⟩

theorem VR.closed_same {κ : K} : ∀ {n : Nat} {v v' : Value}, VR κ v v' → closedV n v = true → v' = v := by
  intro n v v' h
  induction h generalizing n with
  | bool b => intro _; rfl
  | int k n => intro _; rfl
  | string s => intro _; rfl
  | nilFunc => intro _; rfl
  | nilIface => intro _; rfl
  | ptrNil => intro _; rfl
  | mapNil => intro _; rfl
  | sliceNil => intro _; rfl
  | ptr b off h => intro hc; cases n <;> simp [closedV] at hc
  | slice b off len c off' cap' h hs => intro hc; cases n <;> simp [closedV] at hc
  | map r h => intro hc; cases n <;> simp [closedV] at hc
  | yield l h => intro hc; cases n <;> simp [closedV] at hc
  | func f xs ys xs' ys' hx _ hy _ ih1 ih2 => intro hc; cases n <;> simp [closedV] at hc
  | iface t v v' _ ih =>
    intro hc
    cases n with
    | zero => simp [closedV] at hc
    | succ n => rw [ih (n := n) (by simpa [closedV] using hc)]
  | agg xs xs' hx _ ih | tuple xs xs' hx _ ih =>
    intro hc
    cases n with
    | zero => simp [closedV] at hc
    | succ n =>
      simp only [closedV, List.all_eq_true] at hc
      congr 1
      refine Array.ext (by simpa using hx.symm) fun i h1 h2 => ?_
      exact ih i xs[i] xs'[i] (by simp) (by simp) (n := n) (hc _ (by simp))
theorem VR.of_closed (κ : K) : ∀ (n : Nat) (v : Value), closedV n v = true → VR κ v v
  | n, .bool b, _ => .bool b
  | n, .int k m, _ => .int k m
  | n, .string s, _ => .string s
  | n, .nilFunc, _ => .nilFunc
  | n, .nilIface, _ => .nilIface
  | n, .pointer none, _ => .ptrNil
  | n, .map none, _ => .mapNil
  | n, .slice none 0 0, _ => .sliceNil
  | n + 1, .agg cs, h => .agg _ _ rfl fun i v v' a b => by
      rw [a] at b; cases b
      simp only [closedV, List.all_eq_true] at h
      exact VR.of_closed κ n v (h v (by rw [Array.mem_toList_iff]; exact Array.mem_of_getElem? a))
  | n + 1, .tuple cs, h => .tuple _ _ rfl fun i v v' a b => by
      rw [a] at b; cases b
      simp only [closedV, List.all_eq_true] at h
      exact VR.of_closed κ n v (h v (by rw [Array.mem_toList_iff]; exact Array.mem_of_getElem? a))
  | n + 1, .iface t v, h => .iface t v v (VR.of_closed κ n v (by simpa [closedV] using h))
  | n, .float _ _, h | n, .complex _ _ _, h | n, .pointer (some _), h | n, .map (some _), h | n, .chan _, h | n, .func _ _ _, h | n, .slice (some _) _ _, h
  | n, .slice none (_ + 1) _, h | n, .slice none 0 (_ + 1), h => by cases n <;> simp [closedV] at h
  | 0, .agg _, h | 0, .tuple _, h | 0, .iface _ _, h => by simp [closedV] at h
theorem VR.closed {κ : K} {v v' : Value} (h : VR κ v v') (hc : closed v = true) : v' = v := h.closed_same hc
theorem LR.of_closed (κ : K) (xs : List Value) (h : xs.all Ex.closed = true) : LR κ xs xs :=
  ⟨rfl, fun i v v' a b => by
    rw [a] at b; cases b
    exact VR.of_closed κ 4 v (List.all_eq_true.1 h v (List.mem_of_getElem? a))⟩
theorem LR.closed {κ : K} {xs ys : List Value} (h : LR κ xs ys) (hc : xs.all Ex.closed = true) : ys = xs := by
  induction xs generalizing ys with
  | nil => exact h.nil_inv
  | cons x xs ih =>
    obtain ⟨y, ys, rfl, h1, h2⟩ := h.cons_inv
    simp only [List.all_cons, Bool.and_eq_true] at hc
    rw [h1.closed hc.1, ih h2 hc.2]

/-! ### Blocks -/
def TR (κ : K) (ts : TS) (tmps : Array Value) : Prop := ∀ t v, ts.get t = some v → VR κ v (tmps.getD t undef)
theorem TR.ext {κ κ' : K} (e : Ext κ κ') {ts : TS} {tm : Array Value} (h : TR κ ts tm) : TR κ' ts tm := fun t v hv => (h t v hv).ext e
def ER (κ : K) (e e' : MapEntry) : Prop := VR κ e.key e'.key ∧ VR κ e.val e'.val ∧ e'.born = e.born
def ERs (κ : K) (es : List MapEntry) (es' : List MapEntry) : Prop := es.length = es'.length ∧ ∀ (i : Nat) e e', es[i]? = some e → es'[i]? = some e' → ER κ e e'
/-- A block of the evaluator's stands for one of the world's. -/
inductive OR (P : Program) (κ : K) (b : Nat) : AO → Obj → Prop
  | cells (c : List Value) (e : TypeId) (fr : Bool) (c' : Array Value) (fz : Nat × Nat) (hn : c'.size = κ.n b) (hl : c.length ≤ c'.size)
      (hs : ∀ s, sz P e = some s → s = κ.s b) (hc : ∀ (i : Nat) v, c[i]? = some v → ∃ v', c'[i]? = some v' ∧ VR κ v v')
      (hf : fr = false → fz = (0, 0)) : OR P κ b (.cells c e fr) (.cells c' e fz)
  | map (es : List MapEntry) (clock : Nat) (es' : Array MapEntry) (h : ERs κ es es'.toList) : OR P κ b (.map es clock) (.map es' clock)
  | iterNil (since : Nat) (seen : List Nat) (stepped : Nat) (seen' : Array Nat) (h : seen'.toList = seen) : OR P κ b (.mapIter none since seen stepped) (.mapIter none since seen' stepped)
  | iter (m since : Nat) (seen : List Nat) (stepped : Nat) (seen' : Array Nat) (hm : κ.dom m) (h : seen'.toList = seen) : OR P κ b (.mapIter (some m) since seen stepped) (.mapIter (some (κ.p m)) since seen' stepped)
  | str (s : ByteArray) (pos : Nat) : OR P κ b (.strIter s pos) (.stringIter s pos)
  | loop (l : Loop) (nt : Nat) (ts : TS) (params : List Tmp) (dfr : Nat) (hp : l.params.toList = params) (hn : l.tmps.size = nt) (ht : TR κ ts l.tmps) (hd : κ.dom dfr) (hf : l.defers = κ.p dfr) :
      OR P κ b (.loop l.state l.pending nt ts params l.assign l.body dfr) (.loop l)
  | dfr : OR P κ b .dfr (.deferred (some []))
theorem ER.ext {κ κ' : K} (x : Ext κ κ') {e e' : MapEntry} (h : ER κ e e') : ER κ' e e' := ⟨h.1.ext x, h.2.1.ext x, h.2.2⟩
theorem OR.ext {P : Program} {κ κ' : K} (x : Ext κ κ') {b : Nat} (hb : κ.dom b) {o : AO} {o' : Obj} (h : OR P κ b o o') : OR P κ' b o o' := by
  cases h with
  | cells c e fr c' fz hn hl hs hc hf =>
    exact .cells c e fr c' fz (by rw [x.n b hb]; exact hn) hl (by rw [x.s b hb]; exact hs) (fun i v hv => let ⟨v', a, r⟩ := hc i v hv; ⟨v', a, r.ext x⟩) hf
  | map es clock es' h => exact .map es clock es' ⟨h.1, fun i e e' a b => (h.2 i e e' a b).ext x⟩
  | iterNil since seen stepped seen' h => exact .iterNil since seen stepped seen' h
  | iter m since seen stepped seen' hm h => rw [← x.p m hm]; exact .iter m since seen stepped seen' (x.dom m hm) h
  | str s pos => exact .str s pos
  | loop l nt ts params dfr hp hn ht hd hf => exact .loop l nt ts params dfr hp hn (ht.ext x) (x.dom dfr hd) (by rw [x.p dfr hd]; exact hf)
  | dfr => exact .dfr
/-- The evaluator's memory stands for the world's. -/
structure HR (P : Program) (κ : K) (m : Tr AO) (w : World) : Prop where
  obj : ∀ i o, m.get i = some o → κ.dom i ∧ ∃ o', w.heap[κ.p i]? = some o' ∧ OR P κ i o o'
  inj : ∀ a b, (m.get a).isSome → (m.get b).isSome → κ.p a = κ.p b → a = b
  glob : ∀ g, g < P.globals.size → κ.dom g ∧ κ.p g = g
theorem HR.sub {P : Program} {κ : K} {m m2 : Tr AO} {w : World} (h : HR P κ m w) (hs : ∀ i o, m2.get i = some o → m.get i = some o) : HR P κ m2 w :=
  ⟨fun i o hi => h.obj i o (hs i o hi), fun a b ha hb => by
    obtain ⟨x, hx⟩ := Option.isSome_iff_exists.1 ha
    obtain ⟨y, hy⟩ := Option.isSome_iff_exists.1 hb
    exact h.inj a b (by rw [hs a x hx]; rfl) (by rw [hs b y hy]; rfl), h.glob⟩
/-- What becomes of both. -/
structure Gone (ro : Nat) (κ κ' : K) (h h' : Hp) (w w' : World) : Prop where
  mono : h.c ≤ h'.c
  ext : Ext κ κ'
  new : ∀ i, κ'.dom i → κ.dom i ∨ (h.c ≤ i ∧ i < h'.c)
  size : w.heap.size ≤ w'.heap.size
  os : w'.os = w.os
  tape : w'.tape = w.tape
  output : w'.output = w.output
  frame : ∀ b, b < w.heap.size → (∀ i, ro ≤ i → (h.m.get i).isSome → κ.p i ≠ b) → w'.heap[b]? = w.heap[b]?
  fresh : ∀ i, (h'.m.get i).isSome → κ.dom i ∨ w.heap.size ≤ κ'.p i ∨ ∃ k, ro ≤ k ∧ κ.dom k ∧ (h.m.get k).isSome ∧ h'.m.get k = none ∧ κ'.p i = κ.p k
  old : ∀ i, κ.dom i → (h'.m.get i).isSome → (h.m.get i).isSome
  same : ∀ i, κ.dom i → i ∉ h'.wl → h'.m.get i = h.m.get i
  wle : ∀ i, i ∈ h.wl → i ∈ h'.wl
/-- The new numbers are free. -/
def Free (κ : K) (lo hi : Nat) : Prop := ∀ i, lo ≤ i → i < hi → ¬κ.dom i
theorem Gone.refl {P : Program} {ro : Nat} {κ : K} {h : Hp} {w : World} (H : HR P κ h.m w) : Gone ro κ κ h h w w :=
  ⟨Nat.le_refl _, Ext.refl κ, fun _ h => .inl h, Nat.le_refl _, rfl, rfl, rfl, fun _ _ _ => rfl, fun i hi => by
    obtain ⟨o, ho⟩ := Option.isSome_iff_exists.1 hi
    exact .inl (H.obj i o ho).1, fun _ _ h => h, fun _ _ _ => rfl, fun _ h => h⟩
theorem Gone.trans {ro : Nat} {κ κ1 κ2 : K} {h h1 h2 : Hp} {w w1 w2 : World} (A : Gone ro κ κ1 h h1 w w1) (B : Gone ro κ1 κ2 h1 h2 w1 w2) : Gone ro κ κ2 h h2 w w2 where
  mono := Nat.le_trans A.mono B.mono
  ext := A.ext.trans B.ext
  new := fun i hi => by
    have := A.mono; have := B.mono
    rcases B.new i hi with a | a
    · rcases A.new i a with b | b
      · exact .inl b
      · exact .inr ⟨b.1, by omega⟩
    · exact .inr ⟨by omega, a.2⟩
  size := Nat.le_trans A.size B.size
  os := B.os.trans A.os
  tape := B.tape.trans A.tape
  output := B.output.trans A.output
  frame := fun b hb hn => by
    rw [← A.frame b hb hn]
    refine B.frame b (Nat.lt_of_lt_of_le hb A.size) fun i hr hi => ?_
    rcases A.fresh i hi with d | d | ⟨k, hk, hd, hs, _, e⟩
    · rw [A.ext.p i d]; exact hn i hr (A.old i d hi)
    · omega
    · rw [e]; exact hn k hk hs
  fresh := fun i hi => by
    have hnone : ∀ k, κ.dom k → h1.m.get k = none → h2.m.get k = none := fun k hd hk => by
      cases e : h2.m.get k with
      | none => rfl
      | some x => have := B.old k (A.ext.dom k hd) (by rw [e]; rfl); rw [hk] at this; simp at this
    rcases B.fresh i hi with d | d | ⟨k, hk, hd, hs, hz, e⟩
    · have h1i := B.old i d hi
      rcases A.fresh i h1i with a | a | ⟨k, hk, hd, hs, hz, e⟩
      · exact .inl a
      · exact .inr (.inl (by rw [B.ext.p i d]; exact a))
      · exact .inr (.inr ⟨k, hk, hd, hs, hnone k hd hz, by rw [B.ext.p i d]; exact e⟩)
    · exact .inr (.inl (Nat.le_trans A.size d))
    · rcases A.fresh k hs with a | a | ⟨k0, hk0, hd0, hs0, hz0, e0⟩
      · exact .inr (.inr ⟨k, hk, a, A.old k a hs, hz, by rw [e, A.ext.p k a]⟩)
      · exact .inr (.inl (by rw [e]; exact a))
      · exact .inr (.inr ⟨k0, hk0, hd0, hs0, hnone k0 hd0 hz0, by rw [e, e0]⟩)
  old := fun i hd hi => A.old i hd (B.old i (A.ext.dom i hd) hi)
  same := fun i hd hn => by rw [B.same i (A.ext.dom i hd) hn]; exact A.same i hd fun hw => hn (B.wle i hw)
  wle := fun i hi => B.wle i (A.wle i hi)
/-- Another list of what was written, as good for what was there. -/
theorem Gone.wl {ro : Nat} {κ κ' : K} {h h' : Hp} {w w' : World} (A : Gone ro κ κ' h h' w w') (l : List Nat) (hl : ∀ i, κ.dom i → i ∈ h'.wl → i ∈ l) (hw : ∀ i, i ∈ h.wl → i ∈ l) :
    Gone ro κ κ' h { h' with wl := l } w w' :=
  { A with same := fun i hd hn => A.same i hd fun h => hn (hl i hd h), wle := hw }

def K.add (κ : K) (b p n s : Nat) : K := { p := fun i => if i = b then p else κ.p i, n := fun i => if i = b then n else κ.n i, s := fun i => if i = b then s else κ.s i, dom := fun i => κ.dom i ∨ i = b }
theorem Ext.add {κ : K} {b : Nat} (p n s : Nat) (h : ¬κ.dom b) : Ext κ (κ.add b p n s) := by
  have ne : ∀ i, κ.dom i → i ≠ b := fun i hi e => h (e ▸ hi)
  exact ⟨fun i hi => .inl hi, fun i hi => by simp [K.add, ne i hi], fun i hi => by simp [K.add, ne i hi], fun i hi => by simp [K.add, ne i hi]⟩
theorem Hp.get_new (h : Hp) (o : AO) (i : Nat) : (h.new o).m.get i = if i = h.c then some o else h.m.get i := Tr.get_put _ _ _ _
theorem Hp.upd_inv {ro : Nat} {h h' : Hp} {b : Nat} {o : Option AO} (e : h.upd ro b o = some h') : ro ≤ b ∧ h' = { m := h.m.put b o, c := h.c, wl := addW b h.wl } := by
  unfold Hp.upd at e
  by_cases hb : ro ≤ b
  · have : Nat.ble ro b = true := bleT hb
    rw [this] at e; simp only [cond_true, Option.some.injEq] at e
    exact ⟨hb, e.symm⟩
  · have : Nat.ble ro b = false := bleF hb
    rw [this] at e; simp at e
theorem mem_addW {b i : Nat} {l : List Nat} : i ∈ addW b l ↔ i = b ∨ i ∈ l := by
  unfold addW
  by_cases h : l.elem b = true
  · rw [h, cond_true]
    have : b ∈ l := by simpa using h
    constructor
    · exact fun x => .inr x
    · rintro (rfl | x)
      · exact this
      · exact x
  · have h' : l.elem b = false := by simpa using h
    rw [h', cond_false]; simp

section
variable {P : Program} {ro : Nat} {κ : K} {h : Hp} {w w' : World}
/-- A new block. -/
theorem go_new (H : HR P κ h.m w) (hf : ¬κ.dom h.c) {o : AO} {o' : Obj} {n s : Nat} (hw : w'.heap = w.heap.push o') (h1 : w'.os = w.os) (h2 : w'.tape = w.tape) (h3 : w'.output = w.output)
    (ho : OR P (κ.add h.c w.heap.size n s) h.c o o') :
    HR P (κ.add h.c w.heap.size n s) (h.new o).m w' ∧ Gone ro κ (κ.add h.c w.heap.size n s) h (h.new o) w w' := by
  have hx := Ext.add w.heap.size n s hf
  have hlt : ∀ i x, h.m.get i = some x → κ.p i < w.heap.size ∧ i ≠ h.c := fun i x hi => by
    obtain ⟨hd, o1, ho1, _⟩ := H.obj i x hi
    exact ⟨by obtain ⟨a, _⟩ := Array.getElem?_eq_some_iff.1 ho1; exact a, fun e => hf (e ▸ hd)⟩
  refine ⟨⟨fun i x hi => ?_, fun a b ha hb e => ?_, fun g hg => ?_⟩, ⟨by simp [Hp.new], hx, fun i hi => ?_, by simp [hw], h1, h2, h3, fun b hb _ => ?_, fun i hi => ?_, fun i hd hi => ?_, fun i hd _ => ?_, fun _ h => h⟩⟩
  · rw [Hp.get_new] at hi
    by_cases e : i = h.c
    · rw [if_pos e] at hi; simp only [Option.some.injEq] at hi; subst hi; subst e
      refine ⟨.inr rfl, o', ?_, ho⟩
      simp [K.add, hw]
    · rw [if_neg e] at hi
      obtain ⟨hd, o1, ho1, hr⟩ := H.obj i x hi
      refine ⟨.inl hd, o1, ?_, hr.ext hx hd⟩
      rw [hx.p i hd, hw, Array.getElem?_push, if_neg (by have := (hlt i x hi).1; omega)]; exact ho1
  · rw [Hp.get_new] at ha hb
    by_cases ea : a = h.c <;> by_cases eb : b = h.c
    · rw [ea, eb]
    · exfalso
      rw [if_neg eb] at hb
      obtain ⟨y, hy⟩ := Option.isSome_iff_exists.1 hb
      have := (hlt b y hy).1
      simp [K.add, ea, eb] at e; omega
    · exfalso
      rw [if_neg ea] at ha
      obtain ⟨y, hy⟩ := Option.isSome_iff_exists.1 ha
      have := (hlt a y hy).1
      simp [K.add, ea, eb] at e; omega
    · rw [if_neg ea] at ha; rw [if_neg eb] at hb
      simp [K.add, ea, eb] at e
      exact H.inj a b ha hb e
  · exact ⟨.inl (H.glob g hg).1, by rw [hx.p g (H.glob g hg).1]; exact (H.glob g hg).2⟩
  · rcases hi with hi | hi
    · exact .inl hi
    · exact .inr ⟨by omega, by simp [Hp.new]; omega⟩
  · rw [hw, Array.getElem?_push, if_neg (by omega)]
  · rw [Hp.get_new] at hi
    by_cases e : i = h.c
    · exact .inr (.inl (by simp [K.add, e]))
    · rw [if_neg e] at hi
      obtain ⟨y, hy⟩ := Option.isSome_iff_exists.1 hi
      exact .inl (H.obj i y hy).1
  · rw [Hp.get_new, if_neg (fun (e : i = h.c) => hf (e ▸ hd))] at hi; exact hi
  · rw [Hp.get_new, if_neg (fun (e : i = h.c) => hf (e ▸ hd))]
/-- A block turned. -/
theorem go_upd (H : HR P κ h.m w) {b : Nat} {o x : AO} {o' : Obj} {h' : Hp} (hb : h.m.get b = some x) (e : h.upd ro b (some o) = some h')
    (hs : w'.heap.size = w.heap.size) (hw : w'.heap[κ.p b]? = some o') (hz : ∀ k, k ≠ κ.p b → w'.heap[k]? = w.heap[k]?) (h1 : w'.os = w.os) (h2 : w'.tape = w.tape) (h3 : w'.output = w.output)
    (ho : OR P κ b o o') : HR P κ h'.m w' ∧ Gone ro κ κ h h' w w' := by
  obtain ⟨hr, rfl⟩ := Hp.upd_inv e
  have hdb := (H.obj b x hb).1
  have hsome : ∀ i, ((h.m.put b (some o)).get i).isSome → (h.m.get i).isSome := fun i hi => by
    rw [Tr.get_put] at hi
    by_cases e : i = b
    · rw [e, hb]; rfl
    · rw [if_neg e] at hi; exact hi
  refine ⟨⟨fun i y hi => ?_, fun a c ha hc e => H.inj a c (hsome a ha) (hsome c hc) e, H.glob⟩, ⟨Nat.le_refl _, Ext.refl κ, fun _ h => .inl h, by omega, h1, h2, h3, fun k _ hn => hz k fun ek => hn b hr (by rw [hb]; rfl) ek.symm, fun i hi => ?_, fun i _ hi => hsome i hi, fun i _ hn => ?_, fun i hi => mem_addW.2 (.inr hi)⟩⟩
  · simp only [Tr.get_put] at hi
    by_cases e : i = b
    · rw [if_pos e] at hi; simp only [Option.some.injEq] at hi; subst hi; subst e
      exact ⟨hdb, o', hw, ho⟩
    · rw [if_neg e] at hi
      obtain ⟨hd, o1, ho1, hr1⟩ := H.obj i y hi
      refine ⟨hd, o1, ?_, hr1⟩
      rw [hz (κ.p i) fun ek => e (H.inj i b (by rw [hi]; rfl) (by rw [hb]; rfl) ek)]; exact ho1
  · obtain ⟨y, hy⟩ := Option.isSome_iff_exists.1 (hsome i hi)
    exact .inl (H.obj i y hy).1
  · show (h.m.put b (some o)).get i = _
    rw [Tr.get_put, if_neg fun e => hn (mem_addW.2 (.inl e))]
/-- A block that is struck. -/
theorem go_kill (H : HR P κ h.m w) {b : Nat} {h' : Hp} (e : h.upd ro b none = some h') : HR P κ h'.m w ∧ Gone ro κ κ h h' w w := by
  obtain ⟨hr, rfl⟩ := Hp.upd_inv e
  have hsub : ∀ i o, (h.m.put b none).get i = some o → h.m.get i = some o := fun i o hi => by
    rw [Tr.get_put] at hi
    by_cases e : i = b
    · rw [if_pos e] at hi; cases hi
    · rw [if_neg e] at hi; exact hi
  refine ⟨H.sub hsub, ⟨Nat.le_refl _, Ext.refl κ, fun _ h => .inl h, Nat.le_refl _, rfl, rfl, rfl, fun _ _ _ => rfl, fun i hi => ?_, fun i _ hi => ?_, fun i _ hn => ?_, fun i hi => mem_addW.2 (.inr hi)⟩⟩
  · obtain ⟨o, ho⟩ := Option.isSome_iff_exists.1 hi
    exact .inl (H.obj i o (hsub i o ho)).1
  · obtain ⟨o, ho⟩ := Option.isSome_iff_exists.1 hi
    rw [hsub i o ho]; rfl
  · show (h.m.put b none).get i = _
    rw [Tr.get_put, if_neg fun e => hn (mem_addW.2 (.inl e))]
/-- A block that is struck; another number stands for it, as it was turned. -/
theorem go_move (H : HR P κ h.m w) (hf : ¬κ.dom h.c) {b : Nat} {o x : AO} {o' : Obj} {h' : Hp} {n s : Nat} (hb : h.m.get b = some x) (e : h.upd ro b none = some h')
    (hs : w'.heap.size = w.heap.size) (hw : w'.heap[κ.p b]? = some o') (hz : ∀ k, k ≠ κ.p b → w'.heap[k]? = w.heap[k]?) (h1 : w'.os = w.os) (h2 : w'.tape = w.tape) (h3 : w'.output = w.output)
    (ho : OR P (κ.add h.c (κ.p b) n s) h.c o o') : HR P (κ.add h.c (κ.p b) n s) (h'.new o).m w' ∧ Gone ro κ (κ.add h.c (κ.p b) n s) h (h'.new o) w w' := by
  obtain ⟨hr, rfl⟩ := Hp.upd_inv e
  have hx := Ext.add (κ.p b) n s hf
  have hdb := (H.obj b x hb).1
  have hg : ∀ i, ((Hp.new { m := h.m.put b none, c := h.c, wl := addW b h.wl } o)).m.get i = if i = h.c then some o else if i = b then none else h.m.get i := fun i => by
    rw [Hp.get_new]; simp only [Tr.get_put]
  have hold : ∀ i y, i ≠ h.c → (if i = h.c then some o else if i = b then none else h.m.get i) = some y → i ≠ b ∧ h.m.get i = some y := fun i y e hi => by
    rw [if_neg e] at hi
    by_cases eb : i = b
    · rw [if_pos eb] at hi; cases hi
    · rw [if_neg eb] at hi; exact ⟨eb, hi⟩
  refine ⟨⟨fun i y hi => ?_, fun a c ha hc e => ?_, fun g hg => ?_⟩, ⟨by simp [Hp.new], hx, fun i hi => ?_, by omega, h1, h2, h3, fun k _ hn => hz k fun ek => hn b hr (by rw [hb]; rfl) ek.symm, fun i hi => ?_, fun i hd hi => ?_, fun i hd hn => ?_, fun i hi => mem_addW.2 (.inr hi)⟩⟩
  · rw [hg] at hi
    by_cases e : i = h.c
    · rw [if_pos e] at hi; simp only [Option.some.injEq] at hi; subst hi; subst e
      exact ⟨.inr rfl, o', by simp [K.add]; exact hw, ho⟩
    · obtain ⟨eb, hi⟩ := hold i y e hi
      obtain ⟨hd, o1, ho1, hr1⟩ := H.obj i y hi
      refine ⟨.inl hd, o1, ?_, hr1.ext hx hd⟩
      rw [hx.p i hd, hz (κ.p i) fun ek => eb (H.inj i b (by rw [hi]; rfl) (by rw [hb]; rfl) ek)]; exact ho1
  · rw [hg] at ha hc
    obtain ⟨y, hy⟩ := Option.isSome_iff_exists.1 ha
    obtain ⟨z, hz'⟩ := Option.isSome_iff_exists.1 hc
    by_cases ea : a = h.c <;> by_cases ec : c = h.c
    · rw [ea, ec]
    · exfalso
      obtain ⟨ne, hc'⟩ := hold c z ec hz'
      simp [K.add, ea, ec] at e
      exact ne (H.inj c b (by rw [hc']; rfl) (by rw [hb]; rfl) e.symm)
    · exfalso
      obtain ⟨ne, ha'⟩ := hold a y ea hy
      simp [K.add, ea, ec] at e
      exact ne (H.inj a b (by rw [ha']; rfl) (by rw [hb]; rfl) e)
    · simp [K.add, ea, ec] at e
      exact H.inj a c (by rw [(hold a y ea hy).2]; rfl) (by rw [(hold c z ec hz').2]; rfl) e
  · exact ⟨.inl (H.glob g hg).1, by rw [hx.p g (H.glob g hg).1]; exact (H.glob g hg).2⟩
  · rcases hi with hi | hi
    · exact .inl hi
    · exact .inr ⟨by omega, by simp [Hp.new]; omega⟩
  · rw [hg] at hi
    obtain ⟨y, hy⟩ := Option.isSome_iff_exists.1 hi
    by_cases e : i = h.c
    · refine .inr (.inr ⟨b, hr, hdb, by rw [hb]; rfl, ?_, by simp [K.add, e]⟩)
      rw [hg, if_neg (fun (e : b = h.c) => hf (e ▸ hdb)), if_pos rfl]
    · exact .inl (H.obj i y (hold i y e hy).2).1
  · rw [hg] at hi
    obtain ⟨y, hy⟩ := Option.isSome_iff_exists.1 hi
    rw [(hold i y (fun e => hf (e ▸ hd)) hy).2]; rfl
  · rw [hg, if_neg (fun (e : i = h.c) => hf (e ▸ hd)), if_neg fun e => hn (mem_addW.2 (.inl e))]
/-- A block that is struck, whatever becomes of it. -/
theorem go_killw {h' : Hp} (H : HR P κ h.m w) {b : Nat} {x : AO} (hb : h.m.get b = some x) (e : h.upd ro b none = some h')
    (hs : w'.heap.size = w.heap.size) (hz : ∀ k, k ≠ κ.p b → w'.heap[k]? = w.heap[k]?) (h1 : w'.os = w.os) (h2 : w'.tape = w.tape) (h3 : w'.output = w.output) :
    HR P κ h'.m w' ∧ Gone ro κ κ h h' w w' := by
  obtain ⟨hr, rfl⟩ := Hp.upd_inv e
  have hold : ∀ i y, (h.m.put b none).get i = some y → i ≠ b ∧ h.m.get i = some y := fun i y hi => by
    rw [Tr.get_put] at hi
    by_cases eb : i = b
    · rw [if_pos eb] at hi; cases hi
    · rw [if_neg eb] at hi; exact ⟨eb, hi⟩
  refine ⟨⟨fun i y hi => ?_, fun a c ha hc e => ?_, H.glob⟩, ⟨Nat.le_refl _, Ext.refl κ, fun _ h => .inl h, by omega, h1, h2, h3, fun k _ hn => hz k fun ek => hn b hr (by rw [hb]; rfl) ek.symm, fun i hi => ?_, fun i _ hi => ?_, fun i _ hn => ?_, fun i hi => mem_addW.2 (.inr hi)⟩⟩
  · obtain ⟨ne, hi⟩ := hold i y hi
    obtain ⟨hd, o1, ho1, hr1⟩ := H.obj i y hi
    refine ⟨hd, o1, ?_, hr1⟩
    rw [hz (κ.p i) fun ek => ne (H.inj i b (by rw [hi]; rfl) (by rw [hb]; rfl) ek)]; exact ho1
  · obtain ⟨y, hy⟩ := Option.isSome_iff_exists.1 ha
    obtain ⟨z, hz'⟩ := Option.isSome_iff_exists.1 hc
    exact H.inj a c (by rw [(hold a y hy).2]; rfl) (by rw [(hold c z hz').2]; rfl) e
  · obtain ⟨y, hy⟩ := Option.isSome_iff_exists.1 hi
    exact .inl (H.obj i y (hold i y hy).2).1
  · obtain ⟨y, hy⟩ := Option.isSome_iff_exists.1 hi
    rw [(hold i y hy).2]; rfl
  · show (h.m.put b none).get i = _
    rw [Tr.get_put, if_neg fun e => hn (mem_addW.2 (.inl e))]
theorem evO_vr (H : ∀ g, g < P.globals.size → κ.dom g ∧ κ.p g = g) {ts : TS} {a : Act} (T : TR κ ts a.tmps) {x : Operand} {v : Value} (e : evO P ts x = some v) : VR κ v (a.eval x) := by
  cases x with
  | tmp t => exact T t v e
  | const c =>
    simp only [evO] at e
    by_cases hc : closed c = true
    · rw [hc] at e; simp only [cond_true, Option.some.injEq] at e; subst e
      exact VR.of_closed κ 4 c hc
    · have : closed c = false := by simpa using hc
      rw [this] at e; simp at e
  | global g =>
    simp only [evO] at e
    by_cases hg : g < P.globals.size
    · have : Nat.ble (g + 1) P.globals.size = true := bleT hg
      rw [this] at e; simp only [cond_true, Option.some.injEq] at e; subst e
      have hk := H g hg
      have := VR.ptr (κ := κ) g 0 hk.1
      rw [hk.2] at this; exact this
    · have : Nat.ble (g + 1) P.globals.size = false := bleF hg
      rw [this] at e; simp at e
  | func f =>
    simp only [evO, Option.some.injEq] at e; subst e
    exact .func f #[] #[] #[] #[] rfl (fun i v v' h => by simp at h) rfl (fun i v v' h => by simp at h)
theorem evAll_lr (H : ∀ g, g < P.globals.size → κ.dom g ∧ κ.p g = g) {ts : TS} {a : Act} (T : TR κ ts a.tmps) : ∀ {xs : List Operand} {vs : List Value}, evAll P ts xs = some vs → LR κ vs (xs.map a.eval)
  | [], vs, e => by simp only [evAll, Option.some.injEq] at e; subst e; exact LR.nil κ
  | x :: xs, vs, e => by
    simp only [evAll, Option.bind_eq_bind] at e
    obtain ⟨v, hv, e⟩ := Option.bind_eq_some_iff.1 e
    obtain ⟨ws, hw, e⟩ := Option.bind_eq_some_iff.1 e
    simp only [Option.some.injEq] at e; subst e
    exact LR.cons (evO_vr H T hv) (evAll_lr H T hw)
theorem val?_run {α : Type} (w : World) : ∀ (s : Sem α) (v : α), val? P s = some v → s.run P w = .ok v w := by
  intro s
  induction s with
  | pure a => intro v h; simp only [val?, Option.some.injEq] at h; subst h; rfl
  | program k ih => intro v h; exact ih P v h
  | mark m k ih => intro v h; exact ih v h
  | _ => intro v h; simp [val?] at h
end
end Ex
end Go.Proofs.YtgbladpoglhleaaGreatDoor
