/- The laws' arguments, opened, with what their bulk says: how long lists of bytes are together. No condition. -/
import Derived.Test.YtjncnppbaldmiaaGreatDoorRows
import Derived.Test.YtjncnppbaldmiaaGreatDoorOg
namespace Go.Proofs.YtjncnppbaldmiaaGreatDoor
open Go.RowKit Go.Deep Go.ChangeShapes Go.WideShapes Go.Joins
set_option maxRecDepth 100000
variable {H : Type} {enc : TypeId × Value → H}
theorem bulk_one (d : DataW H) : 1 ≤ Rows.uptoBulk d := by
  cases d with
  | lit l => cases l <;> simp [Rows.uptoBulk]
  | nil => simp [Rows.uptoBulk]
  | ptr d => simp [Rows.uptoBulk]
  | slice elems spare => simp [Rows.uptoBulk]
  | agg parts => simp [Rows.uptoBulk]
  | iface t d => simp [Rows.uptoBulk]
  | map entries => simp [Rows.uptoBulk]
  | held h => simp [Rows.uptoBulk]
theorem bulk_part {d : DataW H} {l : List (DataW H)} (h : d ∈ l) : Rows.uptoBulk d ≤ Rows.uptoBulkAll l := by
  induction l with
  | nil => cases h
  | cons x r ih =>
    simp only [Rows.uptoBulkAll]
    rcases List.mem_cons.1 h with rfl | h
    · omega
    · have := ih h; omega
theorem bulk_sum {α : Type} {mu : α → Nat} : ∀ (xs : List α) (ds : List (DataW H)), xs.length = ds.length → (∀ i (h1 : i < xs.length) (h2 : i < ds.length), mu xs[i] ≤ Rows.uptoBulk ds[i]) → (xs.map mu).sum ≤ Rows.uptoBulkAll ds := by
  intro xs
  induction xs with
  | nil => intro ds _ _; simp
  | cons x xs ih =>
    intro ds hl h
    cases ds with
    | nil => simp at hl
    | cons d ds =>
      have h0 := h 0 (by simp) (by simp)
      have hr := ih ds (by simpa using hl) fun i h1 h2 => by
        have := h (i + 1) (by simp; omega) (by simp; omega)
        simpa using this
      simp only [List.map_cons, List.sum_cons, Rows.uptoBulkAll]
      simp only [List.getElem_cons_zero] at h0
      omega
theorem open_slM {α : Type} {K : Kind α} (mu : α → Nat) {P : Program} {W : World} {spare : Nat → Bool} {held : Bool} {fuel : Nat} {t e : TypeId} {v : Value} {y : DataW H × List MemPlace} (ht : P.underlying t = some (.slice e)) (hsz : P.cellsOf e = K.sz) (h0 : 0 < K.sz)
    (hK : ∀ (n : Nat) (cs : List Value) (z : DataW H × List MemPlace), DataW.trod enc P W 0 spare held n e cs = some z → cs.length = K.sz → ∃ x, K.R W (fun _ => True) x cs ∧ mu x ≤ Rows.uptoBulk z.1)
    (h : DataW.trod enc P W 0 spare held fuel t [v] = some y) : ∃ xs, Sl K W (fun _ => True) v xs ∧ (xs.map mu).sum + 1 ≤ Rows.uptoBulk y.1 := by
  rcases open_slice ht h with ⟨hcs, rfl⟩ | ⟨a, len, cap, m, n, D, Pl, hcs, _, hl, hm, hmm, rfl, hx⟩
  · cases hcs
    exact ⟨[], Sl.nil K W _, by simp [Rows.uptoBulk]⟩
  · cases hcs
    have hlm : len ≤ m := by rw [hmm]; split <;> omega
    rw [hsz] at hx
    have each : ∀ i, i < len → ∃ x cs, K.R W (fun _ => True) x cs ∧ cs.length = K.sz ∧ mu x ≤ Rows.uptoBulk (D i) ∧ ∀ j, j < K.sz → W.cell? ((a.add (i * K.sz)).add j) = cs[j]? := fun i hi => by
      obtain ⟨cs, h1, h2⟩ := hx i (by omega)
      obtain ⟨_, hlen, hcell⟩ := World.cells?_some h1
      obtain ⟨x, hx, hmu⟩ := hK n cs _ h2 hlen
      exact ⟨x, cs, hx, hlen, hmu, hcell⟩
    have hm' : cap ≤ 9223372036854775807 := by simpa only [maxLen] using hm
    cases len with
    | zero => exact ⟨[], ⟨some a, cap, rfl, Nat.zero_le _, hm', fun q => absurd q (Nat.lt_irrefl 0)⟩, by simp only [Rows.uptoBulk, List.map_nil, List.sum_nil]; omega⟩
    | succ k =>
      obtain ⟨x0, cs0, _, hl0, _, hc0⟩ := each 0 (by omega)
      have hcell0 : W.cell? (a.add 0) = some (cs0[0]'(by omega)) := by
        have := hc0 0 h0
        rw [Go.Deep.add_add, Nat.zero_mul] at this
        rw [this, List.getElem?_eq_getElem (by omega)]
      obtain ⟨b, o, sp⟩ := a
      have hsp : sp = none := by
        have := World.cell?_spot hcell0
        simpa [Addr.add] using this
      subst hsp
      have hb : b < W.heap.size := by
        have := World.block_lt_of_cell? W _ hcell0
        simpa [Addr.add] using this
      have hex : ∃ f : Fin (k + 1) → α, ∀ i : Fin (k + 1), ∃ cs, K.R W (fun _ => True) (f i) cs ∧ cs.length = K.sz ∧ mu (f i) ≤ Rows.uptoBulk (D i.1) ∧ ∀ j, j < K.sz → W.cell? (((⟨b, o, none⟩ : Addr).add (i.1 * K.sz)).add j) = cs[j]? :=
        ⟨fun i => Classical.choose (each i.1 i.2), fun i => Classical.choose_spec (each i.1 i.2)⟩
      obtain ⟨f, hf⟩ := hex
      refine ⟨List.ofFn f, ⟨some ⟨b, o, none⟩, cap, by simp, by simpa using hl, hm', fun _ => ⟨b, o, rfl, trivial, hb, fun i x hx => ?_⟩⟩, ?_⟩
      · have hi : i < k + 1 := by simpa using (List.getElem?_eq_some_iff.1 hx).1
        obtain ⟨cs, c1, c2, _, c3⟩ := hf ⟨i, hi⟩
        rw [List.getElem?_ofFn, dif_pos hi, Option.some.injEq] at hx
        subst hx
        refine ⟨cs, c1, fun j u hu => ?_⟩
        have hj := (List.getElem?_eq_some_iff.1 hu).1
        have := c3 j (by omega)
        rw [Go.Deep.add_add, addr_add] at this
        rw [Nat.add_assoc, this, hu]
      · have := bulk_sum (mu := mu) (List.ofFn f) ((List.range (k + 1)).map D) (by simp) fun i h1 h2 => by
          have hi : i < k + 1 := by simpa using h1
          obtain ⟨cs, _, _, c2, _⟩ := hf ⟨i, hi⟩
          rw [List.getElem_ofFn, List.getElem_map, List.getElem_range]
          exact c2
        simp only [Rows.uptoBulk]
        omega
variable {W : World} {spare : Nat → Bool} {held : Bool}
theorem el_byteM {n : Nat} {cs : List Value} {z : DataW H × List MemPlace} (h : DataW.trod enc Tryz.prog W 0 spare held n 5 cs = some z) : ∃ x, kbyte.R W (fun _ => True) x cs ∧ 1 ≤ Rows.uptoBulk z.1 := by
  obtain ⟨x, hx⟩ := el_byte h
  exact ⟨x, hx, bulk_one _⟩
theorem sum_ones {α : Type} (xs : List α) : (xs.map fun _ => 1).sum = xs.length := by
  induction xs with
  | nil => rfl
  | cons x xs ih => simp only [List.map_cons, List.sum_cons, List.length_cons, ih]; omega
theorem arg_bytesM {r : Reach} {b0 : Nat} {v : Value} {d : DataW H} {p : List MemPlace} (hv : Value.okWide Tryz.prog W r b0 25 v) (h : DataW.Trod enc Tryz.prog W 0 spare held 25 v d p) : ∃ xs, Sl kbyte W (fun _ => True) v xs ∧ xs.length + 1 ≤ Rows.uptoBulk d := by
  obtain ⟨a, len, cap, rfl⟩ := okWide_slice Tryz.underlying25 hv
  obtain ⟨fuel, hf⟩ := h
  obtain ⟨xs, h1, h2⟩ := open_slM (K := kbyte) (fun _ => 1) Tryz.underlying25 Tryz.cells5 (by decide) (fun _ _ _ h _ => el_byteM h) hf
  exact ⟨xs, h1, by rw [sum_ones] at h2; exact h2⟩
theorem arg_byteListsM {r : Reach} {b0 : Nat} {v : Value} {d : DataW H} {p : List MemPlace} (hv : Value.okWide Tryz.prog W r b0 26 v) (h : DataW.Trod enc Tryz.prog W 0 spare held 26 v d p) :
    ∃ xs, Sl (kslice kbyte) W (fun _ => True) v xs ∧ (xs.map fun b => b.length + 1).sum + 1 ≤ Rows.uptoBulk d := by
  obtain ⟨a, len, cap, rfl⟩ := okWide_slice Tryz.underlying26 hv
  obtain ⟨fuel, hf⟩ := h
  exact open_slM (K := kslice kbyte) (fun b => b.length + 1) Tryz.underlying26 Tryz.cells25 (by decide) (fun n cs z h hl => by
    match cs, hl with
    | [c], _ =>
      obtain ⟨xs, h1, h2⟩ := open_slM (K := kbyte) (fun _ => 1) Tryz.underlying25 Tryz.cells5 (by decide) (fun _ _ _ h _ => el_byteM h) h
      exact ⟨xs, ⟨c, rfl, h1⟩, by rw [sum_ones] at h2; exact h2⟩) hf
end Go.Proofs.YtjncnppbaldmiaaGreatDoor
