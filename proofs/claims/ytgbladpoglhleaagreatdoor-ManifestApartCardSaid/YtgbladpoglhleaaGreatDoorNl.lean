/- The law ManifestNames: true, whatever the names and numbers. Condition: the tables that the text lays. -/
import Derived.Test.YtgbladpoglhleaaGreatDoorOu
import Derived.Test.YtgbladpoglhleaaGreatDoorNs
import Derived.Test.YtgbladpoglhleaaGreatDoorLa
namespace Go.Proofs.YtgbladpoglhleaaGreatDoor
open Go.RowKit Go.Lib
theorem gPow : Tryz.prog.globalNamed "internal/strconv.uint64pow10" = some 4 := by kernel_rfl
theorem gPowType : (Tryz.prog.globals[4]?).map (·.type) = some 218 := by kernel_rfl
theorem gRange : Tryz.prog.globalNamed "strconv.ErrRange" = some 3 := by kernel_rfl
theorem gRangeType : (Tryz.prog.globals[3]?).map (·.type) = some 114 := by kernel_rfl
theorem cellsU64 : Tryz.prog.cellsOf 189 = 1 := by kernel_rfl
theorem cells20 : Tryz.prog.cellsOf 218 = 20 := by kernel_rfl
theorem laid_pow : (Rows.manifestNextRow.laid.filter fun x => x.1 == "internal/strconv.uint64pow10") = [("internal/strconv.uint64pow10", Lib.tabData .u64 Lib.pow10Tab)] := by kernel_rfl
theorem laid_range : (Rows.manifestNextRow.laid.filter fun x => x.1 == "strconv.ErrRange") = [("strconv.ErrRange", .iface "*errors.errorString" (.ptr (.agg [.lit (.string [118, 97, 108, 117, 101, 32, 111, 117, 116, 32, 111, 102, 32, 114, 97, 110, 103, 101])])))] := by kernel_rfl
theorem ntabs {W : World} (h : laidMetH Tryz.prog Rows.manifestNextRow.laid W) : NTabs W := by
  refine ⟨⟨?_, ?_⟩, ?_, (tabs h).sh⟩
  · have h2 := laidMetH.filter (fun x => x.1 == "strconv.ErrSyntax") h
    rw [laid_err] at h2
    obtain ⟨a, s, hv, _, _⟩ := laid_sentinel (tp := 233) (te := 235) (ts := 9) (r := []) h2 gErr gErrType Tryz.underlying114 rowErr Tryz.underlying233 Tryz.underlying235 rfl rfl Tryz.underlying9 cellsErrStr cellsStr
    exact ⟨_, _, hv⟩
  · have h2 := laidMetH.filter (fun x => x.1 == "strconv.ErrRange") h
    rw [laid_range] at h2
    obtain ⟨a, s, hv, _, _⟩ := laid_sentinel (tp := 233) (te := 235) (ts := 9) (r := []) h2 gRange gRangeType Tryz.underlying114 rowErr Tryz.underlying233 Tryz.underlying235 rfl rfl Tryz.underlying9 cellsErrStr cellsStr
    exact ⟨_, _, hv⟩
  · have h2 := laidMetH.filter (fun x => x.1 == "internal/strconv.uint64pow10") h
    rw [laid_pow] at h2
    exact Lib.tabIs_of_head (rest := []) gPow gPowType Tryz.underlying218 Tryz.underlying189 cellsU64 cells20 h2
theorem bytes_bne_self (s : ByteArray) : (s != s) = false := by
  unfold bne
  have : (s == s) = true := by show (s.data == s.data) = true; simp
  rw [this]; rfl
/-- All the tables. -/
structure ATabs (w : World) : Prop where
  t : Tabs w
  n : NTabs w
theorem atabs {W : World} (h : laidMetH Tryz.prog Rows.manifestNextRow.laid W) : ATabs W := ⟨tabs h, ntabs h⟩
theorem app_lots {P : Program} {ops : Array Oper} {rest : List Oper} {o : Oper} {a : Act} {Q : Exit → Act → World → Prop} {W : World} (B k : Nat) (hgd : o.guard = none) (s x : Operand) (t e : TypeId) (z : Value) (size bytes : Nat)
    (ho : o.op = .call { callee := .builtin .append, args := #[s, x], argTypes := #[t, t] })
    (ht : P.underlying t = some (.slice e)) (hinfo : (P.info? e).map (fun i => (i.zero, i.size, i.bytes)) = some (some z, size, bytes)) (hz : z.cells.size = size) (hsz : 0 < size) (hb0 : 0 < bytes)
    (v : Value) (n : Nat) (xs ys : List Value) (hs : a.eval s = v) (hx : a.eval x = .slice (some ⟨W.heap.size, 0, none⟩) k k) (hy : ys.length = k * size) (h1 : ∀ u ∈ ys, u.oneCell' = true)
    (HO : W.ownsRow B e size v n xs) (hbase : B ≤ W.heap.size) (hl : (n + k) * bytes ≤ 140737488355328)
    (h : ∀ v1 w1, w1.ownsRow B e size v1 (n + k) (xs ++ ys) → W.grownBy w1 v.ownBlock → (v1.ownBlock = v.ownBlock ∨ v1.ownBlock = some (W.heap.size + 1)) → wpList P ops Q rest (a.put o.dst v1) w1) :
    wpList P ops Q (o :: rest) a (W.alloc (.cells ys.toArray e)) := by
  obtain ⟨i0, hi, hz0, hz1, hz2⟩ := info_parts hinfo
  have hlen : n + k ≤ 140737488355328 := Nat.le_trans (Nat.le_mul_of_pos_right _ hb0) hl
  refine wpList_append_own_at (W.alloc (.cells ys.toArray e)) hgd s x t ho B e i0 z size bytes ht hi hz0 hz1 hz2 hz hsz v n xs hs (HO.alloc _) ⟨W.heap.size, 0, none⟩ k k ys hx (by omega)
    (World.news_of_block (cs := ys.toArray) (t := e) (fr := (0, 0)) (heap_alloc_new W _)) h1 (by simp only [maxLen]; omega) hl (by simp; omega) ?_
  intro v1 w1 hown hg _ hat
  exact h v1 w1 hown (World.grownBy.trans (World.grownBy_alloc W _ _) hg) (by simpa using hat)
theorem Sl.front {α : Type} {K : Kind α} {w : World} {ok : Nat → Prop} {A : Option Addr} {c : Nat} {xs ys : List α} (h : Sl K w ok (.slice A (xs ++ ys).length c) (xs ++ ys)) : Sl K w ok (.slice A xs.length c) xs := by
  obtain ⟨A', c', e, h1, h2, h3⟩ := h
  cases e
  have hlen : (xs ++ ys).length = xs.length + ys.length := List.length_append
  refine ⟨_, _, rfl, by omega, h2, fun hl => ?_⟩
  obtain ⟨b, o, e, k1, k2, k3⟩ := h3 (by omega)
  refine ⟨b, o, e, k1, k2, fun i x hx => k3 i x ?_⟩
  have hi : i < xs.length := by
    rcases Nat.lt_or_ge i xs.length with h | h
    · exact h
    · rw [List.getElem?_eq_none h] at hx; cases hx
  rw [List.getElem?_append_left hi]
  exact hx
theorem row_slice {w : World} {B : Nat} {e : TypeId} {sz n : Nat} {v : Value} {xs : List Value} (h : w.ownsRow B e sz v n xs) (h0 : 0 < n) : ∃ g cap, v = .slice (some ⟨g, 0, none⟩) n cap ∧ B ≤ g ∧ n ≤ cap ∧ cap ≤ 9223372036854775807 := by
  rcases h.2 with ⟨_, hn⟩ | ⟨g, cap, cur, rfl, hb, hg, h1, h2, _⟩
  · omega
  · exact ⟨g, cap, rfl, hb, h1, by simp only [maxLen] at h2; omega⟩
def core1 : List UInt8 := [99, 111, 114, 101, 46, 49]
def core2 : List UInt8 := [99, 111, 114, 101, 46, 50]
set_option maxHeartbeats 4000000 in
set_option maxRecDepth 100000 in
theorem ManifestNames_any {w : World} {ok : Nat → Prop} {v : Value} {names : List (List UInt8)} {gen i shards : Int} (T : ATabs w) (hg : gen ≤ 9223372036854775807) (hi : i ≤ 9223372036854775807) (hn : Sl kstr w ok v names) :
    Calls Tryz.prog 3 #[.int .i64 gen, .int .i64 i, v, .int .i64 shards] w fun e w' => e = .returned (.bool true) ∧ Below w.heap.size w w' := by
  obtain ⟨A, c, rfl, hc, hm⟩ := hn.slice
  have HS := Aside.mk hn
  have hfirst := first_any T.t
  have HT := Aside.mk T.n
  clear T hn
  go_enter Tryz.func3, Tryz.ntmps3
  go_wp2_with fail
  refine hfirst.mono ?_
  clear hfirst
  rintro e w1 ⟨rfl, B1⟩
  have HB1 := Aside.mk B1
  clear B1
  by_cases hl : names.length ≤ 2000
  · have hl' : ¬ ((2000 : Int) < (names.length : Int)) := by omega
    go_wp2
    go_loopg [10] names.length (fun kq v10 wr => ∃ (k : Nat), Aside (k + kq = names.length) ∧ v10 = .int .i64 k ∧ Aside (Below w.heap.size w wr) ∧ Aside (∀ x ∈ names.take k, x.length ≤ 4096))
    case atStart => exact ⟨0, ⟨by omega⟩, rfl, HB1, ⟨by simp⟩⟩
    case round =>
      clear HB1
      obtain ⟨k, HI, rfl, HB, HR⟩ := hrel
      by_cases hk : k < names.length
      · obtain ⟨b, o, e, k0⟩ := (HS.out.below HB.out).str k hk
        cases e
        have HM : Aside (names.length - (k + 1) < gk ∧ k + 1 + (names.length - (k + 1)) = names.length) := ⟨by have := HI.out; omega⟩
        have HR2 : Aside (names[k].length ≤ 4096 → ∀ x ∈ names.take (k + 1), x.length ≤ 4096) := ⟨fun h x hx => by
          rw [take_snoc' hk] at hx
          rcases List.mem_append.1 hx with hx | hx
          · exact HR.out x hx
          · rw [List.mem_singleton.1 hx]; exact h⟩
        generalize names[k] = x at *
        obtain ⟨w2, hw2⟩ : ∃ w2, w2 = wr := ⟨_, rfl⟩
        subst hw2
        have hsz : (⟨x.toArray⟩ : ByteArray).size = x.length := rfl
        by_cases hx : x.length ≤ 4096
        · have HRn := Aside.mk (HR2.out hx)
          have bl1 : Below w2.heap.size w2 w2.drew := bdrew1 (Below.refl _ _)
          have HC := Aside.mk (ours_any ((HT.out.below HB.out).below bl1) ⟨x.toArray⟩ hx)
          have HC5 := Aside.mk (fun w5 (q : Below w2.drew.heap.size w2.drew w5) => (⟨bthen HB.out HB.out.size (bl1.trans q), bcell q (bcell bl1 k0)⟩ : Below w.heap.size w w5 ∧ w5.cell? ⟨b, o + k, none⟩ = some (.string ⟨x.toArray⟩)))
          have HX := Aside.mk hx
          have hx' : ¬ ((4096 : Int) < (x.length : Int)) := by omega
          obtain ⟨ob, hob⟩ : ∃ ob, ob = oursF x := ⟨_, rfl⟩
          have HOb : Aside (oursF (⟨x.toArray⟩ : ByteArray).data.toList = ob) := ⟨by rw [hob]⟩
          clear HR2 bl1 hob
          go_upto_region 7 with (fail)
          go_region_held3 (fun w' => w'.cell? ⟨b, o + k, none⟩ = some (.string ⟨x.toArray⟩)) (first | (go_keep; done))
            (first
              | (go_at_call 10; refine HC.out.mono ?_; rw [HOb.out]; rintro e w5 ⟨rfl, B5⟩; obtain ⟨hb5, k5⟩ := HC5.out _ B5; have HBB := Aside.mk hb5; clear hb5 B5)
              | (go_at_call 11; refine (refOurs_any ⟨x.toArray⟩ HX.out).mono ?_; rw [HOb.out]; rintro e w6 ⟨rfl, B6⟩; have k6 := bcell B6 k5; have HB6 := Aside.mk (bthen HBB.out HBB.out.size B6); clear B6))
          have hbb : (ob != ob) = false := by cases ob <;> rfl
          go_wp2
          go_roundg (names.length - (k + 1))
          case measure => exact HM.out.1
          case rel => exact ⟨k + 1, ⟨HM.out.2⟩, by go_num, HB6, HRn⟩
        · have hx' : (4096 : Int) < (x.length : Int) := by omega
          clear HR2
          go_upto_region 7 with (fail)
          go_quiet (fail)
          go_wp2
          go_ret
          exact ⟨rfl, bdrew HB.out _⟩
      · have ht : names.take k = names := List.take_of_length_le (by omega)
        have HR2 := Aside.mk HR.out
        rw [ht] at HR2
        replace hk : names.length ≤ k := by omega
        have HP := Aside.mk (HT.out.below HB.out).pow
        clear ht HR
        obtain ⟨w2, hw2⟩ : ∃ w2, w2 = wr := ⟨_, rfl⟩
        subst hw2
        go_upto_region 9 with (fail)
        go_cut [70] (fun v70 wx => v70 = .bool false ∧ Aside (Below w.heap.size w wx))
        case first =>
          by_cases h0 : 0 ≤ gen
          · by_cases h1 : 0 ≤ i
            · have hs1 := shard_any gen i h0 hg h1 hi w2 HP.out
              go_wp2_with fail
              refine hs1.mono ?_
              clear hs1
              rintro e w3 ⟨rfl, B3⟩
              have HB3 := Aside.mk (bthen HB.out HB.out.size B3)
              have hs2 := refShard_any gen i h0 hg h1 hi w3 (HP.out.below B3)
              clear B3
              go_wp2_with fail
              refine hs2.mono ?_
              clear hs2
              rintro e w4 ⟨rfl, B4⟩
              have HB4 := Aside.mk (bthen HB3.out HB3.out.size B4)
              clear B4
              have hbb := bytes_bne_self (shardS gen i)
              go_wp2
              go_meet
              case rel => exact ⟨rfl, HB4⟩
            · replace h1 : i < 0 := by omega
              go_wp2
              go_meet
              case rel => exact ⟨rfl, HB⟩
          · replace h0 : gen < 0 := by omega
            go_wp2
            go_meet
            case rel => exact ⟨rfl, HB⟩
        case rest =>
          obtain ⟨rfl, HB⟩ := hcut
          have hcall := Texts_any (HS.out.below HB.out) (by omega : names.length ≤ 16777216)
          go_wp2_with fail
          refine hcall.mono ?_
          clear hcall
          rintro e w3 ⟨vt, rfl, ho, B3⟩
          have HO3 := Aside.mk ho
          have HB3 := Aside.mk (bthen HB.out HB.out.size B3)
          have HBc := Aside.mk B3
          clear ho B3
          go_wp2_with (at_builtin; go_must (refine app_lots wc.heap.size 2 rfl _ _ 22 9 (.string ByteArray.empty) 1 16 rfl Tryz.underlying22 Tryz.infoStr rfl (by decide) (by decide) vt names.length _ [.string ⟨core1.toArray⟩, .string ⟨core2.toArray⟩] rfl rfl rfl (by simp [Value.oneCell']) HO3.out HBc.out.size (by omega) ?_; intro v1 w6 hown hg6 hat; have HB6 := Aside.mk (HB3.out.grown hg6 HB3.out.size fun q e => Nat.le_trans HB.out.size (HO3.out.lt q e).1); have ho6 := hown; clear hown hg6 hat; obtain ⟨g6, cap6, rfl, hg6, hcap6, hmax6⟩ := row_slice ho6 (by omega); have HO6 := Aside.mk ho6; clear ho6))
          have ho6 : w6.ownsRow wc.heap.size 9 1 (.slice (some ⟨g6, 0, none⟩) (names.length + 2) cap6) (names ++ [core1, core2]).length (strs (names ++ [core1, core2])) := by
            have := HO6.out
            rw [List.length_append]
            unfold strs at this ⊢
            rw [List.map_append]
            exact this
          have hsl := (own_strs ho6).sl
          have hlen2 : (names ++ [core1, core2]).length = names.length + 2 := by simp
          rw [← hlen2] at hsl
          have hfr := hsl.front
          have hb' : ∀ x ∈ names, x.length ≤ 4096 := HR2.out
          have kc1 := hsl.str names.length (by omega)
          have kc2 := hsl.str (names.length + 1) (by omega)
          obtain ⟨b', o', e, kc1⟩ := kc1
          cases e
          obtain ⟨b', o', e, kc2⟩ := kc2
          cases e
          rw [show (names ++ [core1, core2])[names.length]'(by omega) = core1 by simp] at kc1
          rw [show (names ++ [core1, core2])[names.length + 1]'(by omega) = core2 by simp] at kc2
          rw [Nat.zero_add] at kc1 kc2
          have HFr := Aside.mk hfr
          have hown := owned_any (HT.out.below HB6.out) gen shards hfr hl hb'
          have hcap : names.length ≤ cap6 := by omega
          have KC := Aside.mk (And.intro kc1 kc2)
          clear hsl hfr kc1 kc2 ho6 hlen2 HO3 HB3 HBc
          go_wp2_with fail
          refine hown.mono ?_
          clear hown
          rintro e w7 ⟨va, rfl, ho7, B7⟩
          have HB7 := Aside.mk (bthen HB6.out HB6.out.size B7)
          have HFr7 := Aside.mk (HFr.out.below B7)
          have KC7 := Aside.mk (And.intro (bcell B7 KC.out.1) (bcell B7 KC.out.2))
          have HO7 := Aside.mk ho7
          have href := refOwned_any (w := w7) gen shards (HS.out.below HB7.out) hl hb'
          clear ho7 B7 HB6 HFr KC
          go_wp2_with fail
          refine href.mono ?_
          clear href
          rintro e w8 ⟨vb, rfl, ho8, B8⟩
          have HB8 := Aside.mk (bthen HB7.out HB7.out.size B8)
          have HFr8 := Aside.mk (HFr7.out.below B8)
          have KC8 := Aside.mk (And.intro (bcell B8 KC7.out.1) (bcell B8 KC7.out.2))
          have hsame := SameTexts_any (own_strs (ownsRow_step HO7.out B8)).sl (own_strs ho8).sl
          rw [eqB_yes rfl] at hsame
          clear ho8 B8 HB7 HFr7 KC7
          go_wp2_with fail
          refine hsame.mono ?_
          clear hsame
          rintro e w9 ⟨rfl, ⟨⟨q9, rfl⟩⟩⟩
          have HB9 := Aside.mk (bdrew HB8.out q9)
          have hx9 : Sl kstr (w8.drewN q9) _ _ names := HFr8.out.below (bdrew (Below.refl _ _) q9)
          have hsame2 := SameTexts_any hx9 (HS.out.below HB9.out)
          rw [eqB_yes rfl] at hsame2
          obtain ⟨kc1, kc2⟩ := KC8.out
          unfold core1 at kc1
          unfold core2 at kc2
          clear hb' hx9
          go_wp2_with fail
          refine hsame2.mono ?_
          clear hsame2
          rintro e w10 ⟨rfl, ⟨⟨q10, rfl⟩⟩⟩
          rw [World.drewN_drewN]
          go_wp2
          go_ret
          exact ⟨rfl, bdrew HB8.out _⟩
  · have hl' : 2000 < names.length := by omega
    go_wp2
    go_ret
    exact ⟨rfl, HB1.out⟩
end Go.Proofs.YtgbladpoglhleaaGreatDoor
