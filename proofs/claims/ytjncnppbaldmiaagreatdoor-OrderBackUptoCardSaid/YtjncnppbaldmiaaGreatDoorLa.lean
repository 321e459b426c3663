/- What the row's tables say of the memory where chapter 14's first() begins, and the evaluator's memory beside it: first() answers true and writes to nothing that was there. Condition: the tables. -/
import Derived.Test.YtjncnppbaldmiaaGreatDoorKnz
import Derived.Test.YtjncnppbaldmiaaGreatDoorRows
import Derived.Lib.LaidTab
import Derived.LaidSub
import Derived.Stop.LaidErr
import Derived.OpenShut
import Derived.ChangeSame
import Derived.Lay
namespace Go.Proofs.YtjncnppbaldmiaaGreatDoor
open Ex Go.RowKit Go.ChangeShapes
theorem gShapes : Tryz.prog.globalNamed "pith/manifest.shapes" = some 0 := by kernel_rfl
theorem gShapesType : (Tryz.prog.globals[0]?).map (·.type) = some 270 := by kernel_rfl
theorem gCrc : Tryz.prog.globalNamed "pith/crc.table" = some 3 := by kernel_rfl
theorem gCrcType : (Tryz.prog.globals[3]?).map (·.type) = some 314 := by kernel_rfl
theorem gErr : Tryz.prog.globalNamed "strconv.ErrSyntax" = some 6 := by kernel_rfl
theorem gErrType : (Tryz.prog.globals[6]?).map (·.type) = some 263 := by kernel_rfl
theorem cells16 : Tryz.prog.cellsOf 314 = 16 := by kernel_rfl
theorem cellsU32 : Tryz.prog.cellsOf 92 = 1 := by kernel_rfl
theorem cellsShapes : Tryz.prog.cellsOf 270 = 16 := by kernel_rfl
theorem cellsShape : Tryz.prog.cellsOf 269 = 2 := by kernel_rfl
theorem cellsStr : Tryz.prog.cellsOf 9 = 1 := by kernel_rfl
theorem cellsInt : Tryz.prog.cellsOf 3 = 1 := by kernel_rfl
theorem cellsErrStr : Tryz.prog.cellsOf 365 = 1 := by kernel_rfl
theorem starErr : "*" ++ "errors.errorString" = "*errors.errorString" := by decide
theorem rowErr (u : TypeId) (h : Tryz.prog.typeName? 3 u = some "*errors.errorString") : u = 363 :=
  typeName_ptr_named (nm := "errors.errorString") (by rw [starErr]; kernel_rfl) (by kernel_rfl) (by decide) u (by rw [starErr]; exact h)
theorem txt_data (s : ByteArray) : txt s.data.toList = .string s := by simp [txt]
set_option maxRecDepth 100000 in
theorem shape_cells {H : Type} {enc : TypeId × Value → H} {w : World} {base : Nat} {sp : Nat → Bool} {held : Bool} {fuel : Nat} {cs : List Value} {wd : List UInt8} {n : Int} {p : List MemPlace}
    (h : DataW.trod enc Tryz.prog w base sp held fuel 269 cs = some (.agg [.lit (.string wd), .lit (.int .i64 n)], p)) : cs = [txt wd, .int .i64 n] := by
  obtain ⟨y0, y1, m, hx, hl, h0, h1⟩ := trod_struct2 Tryz.underlying269 h
  obtain ⟨s, c0, e0, _⟩ := DataW.trod_string Tryz.underlying9 h0
  obtain ⟨z, c1, e1, _⟩ := DataW.trod_int Tryz.underlying3 h1
  subst e0 e1
  simp only [Prod.mk.injEq, DataW.agg.injEq, List.cons.injEq, DataW.lit.injEq, Lit.string.injEq, Lit.int.injEq, true_and, and_true] at hx
  obtain ⟨⟨rfl, rfl⟩, _⟩ := hx
  rw [cellsShape] at hl
  match cs, hl with
  | [a, b], _ =>
    have q0 : [a] = [Value.string s] := by rw [← c0, show Tryz.prog.cellsOf _ = 1 from cellsStr]; rfl
    have q1 : [b] = [Value.int .i64 n] := by rw [← c1, show Tryz.prog.cellsOf _ = 1 from cellsInt]; rfl
    rw [txt_data]
    simp only [List.cons.injEq, and_true] at q0 q1
    rw [q0, q1]
def shp {H : Type} (wd : List UInt8) (n : Int) : DataW H := .agg [.lit (.string wd), .lit (.int .i64 n)]
theorem shapes_data {H : Type} : (Rows.laid_pith_manifest_shapes : DataW H) = .agg [shp [109, 97, 110, 105, 102, 101, 115, 116] 0, shp [99, 111, 114, 101] 1, shp [111, 114, 100, 101, 114] 1, shp [110, 101, 115, 116] 1, shp [99, 107, 112, 116] 1, shp [115] 2, shp [120] 2, shp [120] 3] := rfl
set_option maxRecDepth 100000 in
theorem shapes_cells {H : Type} {enc : TypeId × Value → H} {w : World} {base : Nat} {sp : Nat → Bool} {held : Bool} {fuel : Nat} {cs : List Value} {p : List MemPlace}
    (h : DataW.trod enc Tryz.prog w base sp held fuel 270 cs = some (Rows.laid_pith_manifest_shapes, p)) : cs = shapesTab := by
  obtain ⟨xs, m, _, hx, hl, hn, hf⟩ := DataW.trod_array Tryz.underlying270 h
  rw [cellsShapes] at hl
  rw [shapes_data, Prod.mk.injEq, DataW.agg.injEq] at hx
  have hx := hx.1
  match xs, hn with
  | [x0, x1, x2, x3, x4, x5, x6, x7], _ =>
    simp only [List.map_cons, List.map_nil, List.cons.injEq, and_true] at hx
    obtain ⟨e0, e1, e2, e3, e4, e5, e6, e7⟩ := hx
    obtain ⟨d0, p0⟩ := x0; obtain ⟨d1, p1⟩ := x1; obtain ⟨d2, p2⟩ := x2; obtain ⟨d3, p3⟩ := x3
    obtain ⟨d4, p4⟩ := x4; obtain ⟨d5, p5⟩ := x5; obtain ⟨d6, p6⟩ := x6; obtain ⟨d7, p7⟩ := x7
    simp only at e0 e1 e2 e3 e4 e5 e6 e7
    subst e0 e1 e2 e3 e4 e5 e6 e7
    have k0 := shape_cells (hf 0 (by decide)); have k1 := shape_cells (hf 1 (by decide)); have k2 := shape_cells (hf 2 (by decide)); have k3 := shape_cells (hf 3 (by decide))
    have k4 := shape_cells (hf 4 (by decide)); have k5 := shape_cells (hf 5 (by decide)); have k6 := shape_cells (hf 6 (by decide)); have k7 := shape_cells (hf 7 (by decide))
    rw [cellsShape] at k0 k1 k2 k3 k4 k5 k6 k7
    match cs, hl with
    | [a0, a1, a2, a3, a4, a5, a6, a7, a8, a9, a10, a11, a12, a13, a14, a15], _ =>
      simp only [List.drop_succ_cons, List.drop_zero, List.take_succ_cons, List.take_zero, List.cons.injEq, and_true, Nat.reduceMul, Nat.zero_mul] at k0 k1 k2 k3 k4 k5 k6 k7
      simp only [k0, k1, k2, k3, k4, k5, k6, k7, shapesTab]
/-- What the tables are, in the world. -/
structure Tabs (w : World) : Prop where
  crc : w.var? Tryz.prog "pith/crc.table" = some crcTab.toArray
  shapes : w.var? Tryz.prog "pith/manifest.shapes" = some shapesTab.toArray
  err : ∃ b off, w.var? Tryz.prog "strconv.ErrSyntax" = some #[.iface 363 (.pointer (some ⟨b, off, none⟩))]
theorem laid_crc : (Rows.orderEncodesRow.laid.filter fun x => x.1 == "pith/crc.table") = [("pith/crc.table", Lib.tabData .u32 [0, 79764919, 159529838, 222504665, 319059676, 398814059, 445009330, 507990021, 638119352, 583659535, 797628118, 726387553, 890018660, 835552979, 1015980042, 944750013])] := by kernel_rfl
theorem laid_shapes : (Rows.orderEncodesRow.laid.filter fun x => x.1 == "pith/manifest.shapes") = [("pith/manifest.shapes", Rows.laid_pith_manifest_shapes)] := by kernel_rfl
theorem laid_err : (Rows.orderEncodesRow.laid.filter fun x => x.1 == "strconv.ErrSyntax") = [("strconv.ErrSyntax", .iface "*errors.errorString" (.ptr (.agg [.lit (.string [105, 110, 118, 97, 108, 105, 100, 32, 115, 121, 110, 116, 97, 120])])))] := by kernel_rfl
theorem tabs {W : World} (h : laidMetH Tryz.prog Rows.orderEncodesRow.laid W) : Tabs W := by
  refine ⟨?_, ?_, ?_⟩
  · have h2 := laidMetH.filter (fun x => x.1 == "pith/crc.table") h
    rw [laid_crc] at h2
    exact Lib.tabIs_of_head (rest := []) gCrc gCrcType Tryz.underlying314 Tryz.underlying92 cellsU32 cells16 h2
  · have h2 := laidMetH.filter (fun x => x.1 == "pith/manifest.shapes") h
    rw [laid_shapes] at h2
    obtain ⟨ps, ⟨g', t', cs, fuel, p, q, hg', ht', hvar, hd, _, _⟩, _⟩ := h2
    obtain rfl := Option.some.inj (gShapes.symm.trans hg')
    obtain rfl := Option.some.inj (gShapesType.symm.trans ht')
    rw [hvar, ← shapes_cells hd]
  · have h2 := laidMetH.filter (fun x => x.1 == "strconv.ErrSyntax") h
    rw [laid_err] at h2
    obtain ⟨a, s, hv, hc, _⟩ := laid_sentinel (tp := 363) (te := 365) (ts := 9) (r := []) h2 gErr gErrType Tryz.underlying263 rowErr Tryz.underlying363 Tryz.underlying365 rfl rfl Tryz.underlying9 cellsErrStr cellsStr
    obtain ⟨b, off, sp⟩ := a
    cases sp with
    | none => exact ⟨b, off, hv⟩
    | some x =>
      simp only [World.cell?] at hc
      split at hc
      · simp at hc
      · cases hc
theorem row_at {w : World} {n : String} {g : Nat} {cs : Array Value} (hg : Tryz.prog.globalNamed n = some g) (h : w.var? Tryz.prog n = some cs) : ∃ e fz, w.heap[g]? = some (.cells cs e fz) := by
  unfold World.var? at h
  simp only [hg, Option.bind_some] at h
  split at h
  · rename_i c e fz hq
    obtain rfl := Option.some.inj h
    exact ⟨e, fz, hq⟩
  · cases h
def exK (b n0 n2 n5 s0 s2 s5 : Nat) : K where
  p i := if i = 20 then b else i
  n i := if i = 0 then n0 else if i = 6 then n2 else n5
  s i := if i = 0 then s0 else if i = 6 then s2 else s5
  dom i := i < 10 ∨ i = 20
theorem lr_closed {κ : K} {l : List Value} (h : l.all closed = true) (i : Nat) (v : Value) (hv : l[i]? = some v) : ∃ v', l.toArray[i]? = some v' ∧ VR κ v v' :=
  ⟨v, by simpa using hv, VR.of_closed κ 4 v (List.all_eq_true.1 h v (List.mem_of_getElem? hv))⟩
theorem globs : Tryz.prog.globals.size = 10 := by kernel_rfl
theorem start_get (e0 e2 e5 off i : Nat) : (exStart e0 e2 e5 off).m.get i = if i = 3 then some (.cells crcTab e5 true) else if i = 6 then some (.cells [.iface 363 (ptr 20 off)] e2 true) else if i = 0 then some (.cells shapesTab e0 true) else none := by
  simp only [exStart, Tr.get_put, Tr.get]
/-- first() answers true, and writes to nothing that was there. -/
theorem first_any {w : World} (T : Tabs w) : Calls Tryz.prog 6 #[] w fun e w' => e = .returned (.bool true) ∧ Below w.heap.size w w' := by
  obtain ⟨b, off, he⟩ := T.err
  obtain ⟨e5, z5, h5⟩ := row_at gCrc T.crc
  obtain ⟨e0, z0, h0⟩ := row_at gShapes T.shapes
  obtain ⟨e2, z2, h2⟩ := row_at gErr he
  have hrun := first_run e0 e2 e5 off
  cases hq : acall Tryz.prog 30 (evalN Tryz.prog 30 exX knAll 3000) knAll 6 [] (exStart e0 e2 e5 off) with
  | none => rw [hq] at hrun; simp [saysTrue] at hrun
  | some r =>
    obtain ⟨v, h'⟩ := r
    rw [hq] at hrun
    have hv : v = .bool true := by
      cases v with
      | bool x => simp only [saysTrue] at hrun; rw [hrun]
      | _ => simp [saysTrue] at hrun
    subst hv
    have hsome : ∀ i, ((exStart e0 e2 e5 off).m.get i).isSome → i = 3 ∨ i = 6 ∨ i = 0 := by
      intro i hi
      rw [start_get] at hi
      by_cases a : i = 3
      · exact .inl a
      · by_cases c : i = 6
        · exact .inr (.inl c)
        · by_cases d : i = 0
          · exact .inr (.inr d)
          · simp [a, c, d] at hi
    let κ := exK b 16 1 16 ((sz Tryz.prog e0).getD 0) ((sz Tryz.prog e2).getD 0) ((sz Tryz.prog e5).getD 0)
    have W0 : WF (exStart e0 e2 e5 off) := ⟨fun i hi => by
      show i < 30
      rcases hsome i hi with rfl | rfl | rfl <;> decide, fun i hi => by cases hi⟩
    have H : HR Tryz.prog κ (exStart e0 e2 e5 off).m w := by
      refine hr_start (fun i o ho => ?_) (fun x y hx hy hxy => ?_) (fun g hg => ?_)
      · rw [start_get] at ho
        by_cases a : i = 3
        · subst a
          simp only [if_true, Option.some.injEq] at ho
          subst ho
          exact ⟨.inl (by decide), _, h5, .cells _ _ _ _ _ rfl (by decide) (fun s q => by simp [κ, exK, q]) (lr_closed (by decide)) (fun q => by cases q)⟩
        · by_cases c : i = 6
          · subst c
            simp only [if_neg a, if_true, Option.some.injEq] at ho
            subst ho
            refine ⟨.inl (by decide), _, h2, .cells _ _ _ _ _ rfl (Nat.le_refl 1) (fun s q => by simp [κ, exK, q]) (fun i v hv => ?_) (fun q => by cases q)⟩
            cases i with
            | zero =>
              simp only [List.getElem?_cons_zero, Option.some.injEq] at hv
              subst hv
              refine ⟨_, rfl, .iface _ _ _ ?_⟩
              have := VR.ptr (κ := κ) 20 off (.inr rfl)
              exact this
            | succ i => simp at hv
          · by_cases d : i = 0
            · subst d
              simp only [if_neg a, if_neg c, if_true, Option.some.injEq] at ho
              subst ho
              exact ⟨.inl (by decide), _, h0, .cells _ _ _ _ _ rfl (by decide) (fun s q => by simp [κ, exK, q]) (lr_closed (by decide)) (fun q => by cases q)⟩
            · simp [a, c, d] at ho
      · rcases hsome x hx with rfl | rfl | rfl <;> rcases hsome y hy with rfl | rfl | rfl <;> simp [κ, exK] at hxy ⊢
      · rw [globs] at hg
        exact ⟨.inl hg, by show (if g = 20 then b else g) = g; rw [if_neg (by omega)]⟩
    refine (calls_ok fit exX_ok knAll_ok hq W0 H (LR.nil κ) (fun i hi hd => ?_)).mono fun e w' ⟨v', he', κ', hH, hG, hV⟩ => ?_
    · have hi : 30 ≤ i := hi
      rcases hd with hd | hd <;> omega
    · refine ⟨?_, hG.below fun i hi => ?_⟩
      · rw [he']; cases hV; rfl
      · rw [start_get, if_neg (by omega), if_neg (by omega), if_neg (by omega)]
end Go.Proofs.YtjncnppbaldmiaaGreatDoor
