/- manifest.Encode walked. No condition. -/
import Derived.Test.YtgbladpoglhleaaGreatDoorEi
import Derived.Test.YtgbladpoglhleaaGreatDoorHl
import Derived.Shelf.Abstract
import Derived.Sort.LoopGhostIn
namespace Go.Proofs.YtgbladpoglhleaaGreatDoor
open Go.RowKit Go.Shelf
theorem wrap_u32 (x : UInt32) : IntKind.i64.wrap (x.toNat : Int) = (x.toNat : Int) := by
  have h := x.toNat_lt
  simp [IntKind.wrap, IntKind.signed, IntKind.bits]
  omega
theorem vform_le {x : Nat} (hx : x < 9223372036854775808) : (vform x).length ≤ 10 := by
  have h := vhi_length 9 (x / 128) (by rw [Nat.div_lt_iff_lt_mul (by omega)]; omega)
  simp only [vform, List.length_append, List.length_singleton]
  omega
theorem rowD_le {c : List Int} (h : ∀ d ∈ c, 0 ≤ d ∧ d < 9223372036854775808) : (rowD c).length ≤ 10 * c.length := by
  induction c with
  | nil => simp [rowD]
  | cons d c ih =>
    have h1 := ih fun d hd => h d (List.mem_cons_of_mem _ hd)
    have h2 := vform_le (x := d.toNat) (by have := h d List.mem_cons_self; omega)
    unfold rowD vI at *
    simp only [List.flatMap_cons, List.length_append, List.length_cons]
    omega
theorem enc_yes {w W9 W w5 : World} {m : Man} {mc : Array Value} {N D : Nat} {dv bv hv : Value} {vs : List Value} (h : EI w mc N W9 dv vs bv (dataM m)) (hm : mayF m = true) (hD : w.heap.size ≤ D) (hKd : W9.heap[D]? = some (.deferred (some []))) (hb : Below W9.heap.size W9 W) (b5 : Below W.heap.size W w5)
    (ho : w5.ownsRow W.heap.size 5 1 hv (headM m).length (u8s (headM m))) : EncPost w m (.returned (.tuple #[hv, dv, .int .i64 0])) (w5.putObj D (.deferred none)) ∧ w5.heap[D]? = some (.deferred (some [])) := by
  have hlt := h.lt
  have hDl := blk_lt hKd
  have h5 := bthen hb hb.size b5
  have e5 := h.below h5
  have d5 : w5.heap[D]? = some (.deferred (some [])) := bblk h5 hKd
  have hs0 := h.bel.size
  have hs1 := hb.size
  have hput : ∀ q, q ≠ D → (w5.putObj D (.deferred none)).heap[q]? = w5.heap[q]? := fun q hq => World.putObj_heap_other hq
  refine ⟨⟨fun _ => ⟨hv, dv, vs, rfl, ?_, ?_⟩, fun e => absurd (hm.symm.trans e) (by decide), ?_⟩, d5⟩
  · have ho' := own_low ho (show w.heap.size ≤ W.heap.size by omega)
    exact ownsRow_move ho' fun q e => hput q (by have := (ho.lt q e).1; omega)
  · exact (e5.bl.low (by omega)).move fun q c t _ hq _ => hput q (fun e => by subst e; rw [hq] at d5; cases d5)
  · have b := e5.bel
    exact ⟨b.os, b.tape, b.output, by simp; exact b.size, fun q hq => (hput q (by omega)).trans (b.block q hq)⟩
attribute [local go_sem] Oper.semAt_some
set_option maxHeartbeats 8000000 in
set_option maxRecDepth 100000 in
theorem pencode_any {w : World} {ok : Nat → Prop} {v : Value} {m : Man} (hx : ManV w ok v m) (hl1 : m.Cuts.length ≤ 16777216) (hl2 : m.Shards.length ≤ 16777216) (hl3 : m.Degrees.length ≤ 16777216) : Calls Tryz.prog 25 #[v] w (EncPost w m) := by
  have hmay := Aside.mk (fun (W : World) (h : Below w.heap.size w W) => pmay_any (hx.below h) hl1 hl2 hl3)
  obtain ⟨a, b, c, rfl, h1, h2, h3⟩ := hx
  obtain ⟨Aa, ca, rfl, _⟩ := h1.slice
  obtain ⟨Ab, cb, rfl, _⟩ := h2.slice
  obtain ⟨Ac, cc, rfl, _⟩ := h3.slice
  have H1 := Aside.mk h1
  have H2 := Aside.mk h2
  have H3 := Aside.mk h3
  have HL := Aside.mk (And.intro hl1 (And.intro hl2 hl3))
  clear h1 h2 h3 hl1 hl2 hl3
  refine (callsIn_wide (n := 6)).1 ?_
  refine callsIn_of_wp_marks Tryz.func25 rfl trivial ?_
  simp only [Tryz.ntmps25, List.size_toArray, List.length_cons, List.length_nil, Nat.reduceAdd, Nat.reduceSub, Array.replicate_succ, Array.replicate_zero, List.push_toArray, List.append_toArray, List.nil_append, List.cons_append]
  refine wpIn_wide.2 ?_
  have bA := (Below.refl w.heap.size w).alloc (Nat.le_refl _) (.cells #[.int .i64 m.Gen, .int .i64 m.N, .slice Aa m.Cuts.length ca, .slice Ab m.Shards.length cb, .slice Ac m.Degrees.length cc] 33)
  have hcall := hmay.out _ bA
  have hm0 := heap_alloc_new w (.cells #[.int .i64 m.Gen, .int .i64 m.N, .slice Aa m.Cuts.length ca, .slice Ab m.Shards.length cb, .slice Ac m.Degrees.length cc] 33)
  have HBa := Aside.mk bA
  clear hmay bA
  have HOKs := Aside.mk (@may_ok m)
  have HMe : Aside (mayF m = mayF m) := ⟨rfl⟩
  obtain ⟨mb, hmb⟩ : ∃ mb, mb = mayF m := ⟨_, rfl⟩
  have HMb := Aside.mk hmb
  go_wp2_with fail
  refine hcall.mono ?_
  clear hcall
  rintro e w1 ⟨he, B1⟩
  rw [← hmb] at he
  subst he
  have HB1 := Aside.mk (bthen HBa.out HBa.out.size B1)
  have HM1 := Aside.mk (bblk B1 hm0)
  clear hm0 B1 HBa hmb
  cases mb with
  | false =>
    go_wp2
    exact ⟨_, by simp [results, Tryz.results25, go_sem], enc_no HMb.out.symm HB1.out⟩
  | true =>
    have HK := Aside.mk (HOKs.out HMb.out.symm)
    clear HOKs
    obtain ⟨N, hN⟩ : ∃ N, N = w1.heap.size := ⟨_, rfl⟩
    have hlt : w.heap.size < N := by rw [hN]; exact blk_lt HM1.out
    go_upto_region 4 with (fail)
    go_cut [6] from 6 to 6 (fun v6 wx => v6 = .pointer (some ⟨N + 1, 0, none⟩) ∧ Aside (EI w #[.int .i64 m.Gen, .int .i64 m.N, .slice Aa m.Cuts.length ca, .slice Ab m.Shards.length cb, .slice Ac m.Degrees.length cc] N wx (.slice none 0 0) [] (.slice none 0 0) []))
    case first =>
      have b0 := (HB1.out.alloc HB1.out.size (.cells #[.slice none 0 0] 45))
      have b1 := b0.alloc b0.size (.cells #[.slice none 0 0] 44)
      have hs1 : (w1.alloc (.cells #[.slice none 0 0] 45)).heap.size = N + 1 := by simp [hN]
      have HE : Aside (EI w #[.int .i64 m.Gen, .int .i64 m.N, .slice Aa m.Cuts.length ca, .slice Ab m.Shards.length cb, .slice Ac m.Degrees.length cc] N ((w1.alloc (.cells #[.slice none 0 0] 45)).alloc (.cells #[.slice none 0 0] 44)) (.slice none 0 0) [] (.slice none 0 0) []) := ⟨⟨b1, hlt, by
        rw [Below.heap_alloc _ _ _ (by rw [hs1]; omega), Below.heap_alloc _ _ _ (by rw [← hN]; exact hlt)]; exact HM1.out, by
        rw [Below.heap_alloc _ _ _ (by rw [hs1]; omega)]; rw [hN]; exact heap_alloc_new _ _, by rw [← hs1]; exact heap_alloc_new _ _, BL.nil _ _⟩⟩
      clear b0 b1 hs1
      go_wp2
      go_meet
      case rel => exact ⟨by rw [hN], HE⟩
    case rest =>
      obtain ⟨rfl, HE⟩ := hcut
      rw [← hN]
      clear hN
      obtain ⟨k0, k1, k2, k3, k4⟩ := five HE.out.mb
      have HI0 : Aside (EI w #[.int .i64 m.Gen, .int .i64 m.N, .slice Aa m.Cuts.length ca, .slice Ab m.Shards.length cb, .slice Ac m.Degrees.length cc] N wc (.slice none 0 0) [] (.slice none 0 0) ((List.range ((0 - 1) / 50)).map (rowS m)) ∧ EB N wc (.slice none 0 0) [] (.slice none 0 0) (segS m (50 * ((0 - 1) / 50)) 0)) := ⟨HE.out, EB.nil _ _ _ _⟩
      go_wp2
      clear k0 k1 k2 k3 k4
      go_loopg [18] m.Shards.length (fun kq v18 wr => ∃ (i : Nat) (dv : Value) (vs : List Value) (bv : Value), Aside (i + kq = m.Shards.length) ∧ v18 = .int .i64 i ∧ Aside (EI w #[.int .i64 m.Gen, .int .i64 m.N, .slice Aa m.Cuts.length ca, .slice Ab m.Shards.length cb, .slice Ac m.Degrees.length cc] N wr dv vs bv ((List.range ((i - 1) / 50)).map (rowS m)) ∧ EB N wr dv vs bv (segS m (50 * ((i - 1) / 50)) i)))
      case atStart => exact ⟨0, _, _, _, ⟨by omega⟩, rfl, HI0⟩
      case round =>
        clear HI0 HE
        obtain ⟨i, dv, vs, bv, HI, rfl, HE⟩ := hrel
        by_cases hi : i < m.Shards.length
        · obtain ⟨bs, os, e, s0, s1, s2⟩ := (H2.out.below HE.out.1.bel).info i hi
          cases e
          have hic : i < m.Cuts.length := by have := HK.out.nc; omega
          have HM : Aside (m.Shards.length - (i + 1) < gk ∧ i + 1 + (m.Shards.length - (i + 1)) = m.Shards.length) := ⟨by have := HI.out; omega⟩
          have hgd : m.Cuts.getD i 0 = m.Cuts[i] := by rw [List.getD_eq_getElem?_getD, List.getElem?_eq_getElem hic]; rfl
          have hgs : m.Shards.getD i iD = m.Shards[i] := by rw [List.getD_eq_getElem?_getD, List.getElem?_eq_getElem hi]; rfl
          have HRow : Aside (shRow m i = shB m.Cuts[i] m.Shards[i]) := ⟨by unfold shRow; rw [hgd, hgs]⟩
          have hcut := HK.out.cut i hi
          have hsh := HK.out.sh i hi
          rw [hgd] at hcut
          rw [hgs] at hsh
          clear hgd hgs
          obtain ⟨w2, hw2⟩ : ∃ w2, w2 = wr := ⟨_, rfl⟩
          subst hw2
          have HCutAt := Aside.mk (fun (W : World) (h : Below w.heap.size w W) => (H1.out.below h).int i hic)
          generalize m.Shards[i] = sh at *
          generalize m.Cuts[i] = cut at *
          go_upto_region 7 with (fail)
          go_cut [7, 8] from 20 to 22 (fun v7 v8 wx => v7 = .int .i64 i ∧ v8 = .pointer (some ⟨w2.heap.size, 0, none⟩) ∧ Aside (Below w2.heap.size w2 wx) ∧ Aside (wx.heap[w2.heap.size]? = some (.cells #[.int .i64 sh.Size, .int .u32 sh.Sum.toNat, .int .i64 sh.Arcs] 54 (0, 0))))
          case first =>
            go_wp2
            go_meet
            case rel => exact ⟨rfl, rfl, ⟨(Below.refl _ w2).alloc (Nat.le_refl _) _⟩, ⟨heap_alloc_new w2 _⟩⟩
          case rest =>
            obtain ⟨rfl, rfl, HBc, HSc⟩ := hcut
            have HE2 := Aside.mk (And.intro (HE.out.1.below HBc.out) (HE.out.2.below HBc.out))
            clear s0 s1 s2
            have HSb : Aside (∀ q, dv.ownBlock = some q ∨ bv.ownBlock = some q → q ≠ w2.heap.size) := ⟨fun q e => by
              rcases e with e | e
              · have := (HE.out.1.bl.own.lt q e).2; omega
              · have := (HE.out.2.own.lt q e).2; omega⟩
            have HSz := Aside.mk HBc.out.size
            have hi0 : (0 : Int) ≤ (i : Int) := by omega
            obtain ⟨Ad, nd, cd, hdv⟩ := own_slice HE2.out.1.bl.own
            subst hdv
            obtain ⟨Ae, ne, ce, hbv⟩ := own_slice HE2.out.2.own
            subst hbv
            have hil : i ≤ 1000 := by have := HK.out.ns; omega
            by_cases h50 : i % 50 = 0
            · have e50 : ((i : Int) % 50 == 0) = true := by simp; omega
              by_cases hp : 0 < i
              · have hp' : decide (0 < i) = true := decide_eq_true hp
                have HRows : Aside ((List.range (i / 50)).map (rowS m) = (List.range ((i - 1) / 50)).map (rowS m) ++ [segS m (50 * ((i - 1) / 50)) i] ∧ 50 * (i / 50) = i) := ⟨by
                  have e1 : i / 50 = (i - 1) / 50 + 1 := by omega
                  have e2 : 50 * ((i - 1) / 50 + 1) = i := by omega
                  refine ⟨?_, by omega⟩
                  rw [e1, List.range_succ, List.map_append]
                  simp only [List.map_cons, List.map_nil]
                  rw [show rowS m ((i - 1) / 50) = segS m (50 * ((i - 1) / 50)) i by unfold rowS; rw [e2, Nat.min_eq_left (by omega)]]⟩
                obtain ⟨cdN, fdN, -⟩ := store_at HE2.out.1.db 0 (show 0 < 1 by decide)
                obtain ⟨cbN, fbN, -⟩ := store_at HE2.out.1.bb 0 (show 0 < 1 by decide)
                simp only [List.getElem_toArray, List.getElem_cons_zero] at cdN cbN
                have HRl : Aside (((List.range ((i - 1) / 50)).map (rowS m)).length ≤ 1000) := ⟨by rw [List.length_map, List.length_range]; omega⟩
                have HNs := Aside.mk HE2.out.1.size
                have HFl := Aside.mk (fun (w9 : World) (dv1 : Value) => HE2.out.1.flush (w9 := w9) (dv1 := dv1) HE2.out.2)
                have HOd := Aside.mk HE2.out.1.bl.own
                generalize ((List.range ((i - 1) / 50)).map (rowS m)).length = rl at *
                go_wp2_with (at_builtin; go_must (refine app_one (N + 2) rfl _ _ 45 44 (.slice none 0 0) 1 24 rfl Tryz.underlying45 Tryz.infoBytes rfl (by decide) (by decide) (.slice Ad nd cd) rl vs [.slice Ae ne ce] rfl rfl rfl (by simp [Value.oneCell']) HOd.out HNs.out (by have := HRl.out; omega) ?_; intro v1 w9 hown hg9 hat; obtain ⟨A9, n9, c9, rfl⟩ := own_slice hown; obtain ⟨h9a, h9b, h9c⟩ := HFl.out w9 _ hown hg9 hat; obtain ⟨q1, q2, q3⟩ := store_at h9a 0 (show 0 < 1 by decide); have q4 := h9c.bb; obtain ⟨q5, q6, q7⟩ := store_at q4 0 (show 0 < 1 by decide); simp only [List.getElem_toArray, List.getElem_cons_zero] at q1 q5; have HE9 := Aside.mk h9c; have HG9 := Aside.mk hg9; clear hown hg9 hat h9a h9b h9c q4))
                obtain ⟨W3, hW3⟩ : ∃ W3, W3 = (w9.setCell ⟨N, 0, none⟩ (.slice A9 n9 c9)).setCell ⟨N + 1, 0, none⟩ (.slice none 0 0) := ⟨_, rfl⟩
                have HE3 : Aside (EI w #[.int .i64 m.Gen, .int .i64 m.N, .slice Aa m.Cuts.length ca, .slice (some ⟨bs, os, none⟩) m.Shards.length cb, .slice Ac m.Degrees.length cc] N W3 (.slice A9 n9 c9) (vs ++ [.slice Ae ne ce]) (.slice none 0 0) ((List.range (i / 50)).map (rowS m)) ∧ EB N W3 (.slice A9 n9 c9) (vs ++ [.slice Ae ne ce]) (.slice none 0 0) (segS m (50 * (i / 50)) i)) := ⟨by
                  rw [hW3, HRows.out.1, HRows.out.2, segS_none]
                  exact ⟨HE9.out.setB _, EB.nil _ _ _ _⟩⟩
                have HSc3 : Aside (W3.heap[w2.heap.size]? = some (.cells #[.int .i64 sh.Size, .int .u32 sh.Sum.toNat, .int .i64 sh.Arcs] 54 (0, 0))) := ⟨by
                  have hsz := HE.out.1.size
                  rw [hW3, setCell_far (by omega), setCell_far (by omega)]
                  exact (HG9.out.block _ (blk_lt HSc.out) (fun e => HSb.out _ (.inl e.symm) rfl)).trans HSc.out⟩
                have HSb3 : Aside (∀ q, (.slice none 0 0 : Value).ownBlock = some q → q ≠ w2.heap.size) := ⟨fun q e => by cases e⟩
                rw [← hW3]
                clear hW3 cdN fdN cbN fbN q1 q2 q3 q5 q6 q7 HE9 HG9
                obtain ⟨bq, oq, e, kq⟩ := HCutAt.out W3 HE3.out.1.bel
                cases e
                have kbq : bq < w.heap.size := by
                  obtain ⟨b', o', cs', e', _, h', _⟩ := H1.out.at i hic
                  cases e'
                  exact h'
                obtain ⟨-, -, k2, -, -⟩ := five HE3.out.1.mb
                obtain ⟨cbN, fbN, -⟩ := store_at HE3.out.1.bb 0 (show 0 < 1 by decide)
                simp only [List.getElem_toArray, List.getElem_cons_zero] at cbN
                have s0 := (store_at HSc3.out 0 (show 0 < 3 by decide)).1
                have s1 := (store_at HSc3.out 1 (show 1 < 3 by decide)).1
                have s2 := (store_at HSc3.out 2 (show 2 < 3 by decide)).1
                simp only [List.getElem_toArray, List.getElem_cons_zero, List.getElem_cons_succ] at s0 s1 s2
                have bl1 : Below W3.heap.size W3 W3.drew := bdrew1 (Below.refl _ _)
                have bl2 := bl1.alloc (Nat.le_refl _) (.cells #[.int .i64 cut, .int .i64 sh.Size, .int .i64 (sh.Sum.toNat : Int), .int .i64 sh.Arcs] 3)
                have hSof : ∀ w', Below W3.heap.size W3 w' → (w'.cell? ⟨w.heap.size, 2, none⟩ = some (.slice (some ⟨bq, oq, none⟩) m.Cuts.length ca) ∧ w'.cell? ⟨bq, oq + i, none⟩ = some (.int .i64 cut) ∧ w'.cell? ⟨w2.heap.size, 0, none⟩ = some (.int .i64 sh.Size) ∧ w'.cell? ⟨w2.heap.size, 1, none⟩ = some (.int .u32 sh.Sum.toNat) ∧ w'.cell? ⟨w2.heap.size, 2, none⟩ = some (.int .i64 sh.Arcs)) := fun w' hb => ⟨bcell hb k2, bcell hb kq, bcell hb s0, bcell hb s1, bcell hb s2⟩
                have hS0 := hSof _ bl1
                have hSA := hSof _ bl2
                have kb0 := bcell bl1 cbN
                have kbA := bcell bl2 cbN
                have h32 : sh.Sum.toNat < 4294967296 := sh.Sum.toNat_lt
                have hwr : IntKind.i64.wrap (sh.Sum.toNat : Int) = (sh.Sum.toNat : Int) := wrap_u32 sh.Sum
                have hlit : Sl kint (W3.drew.alloc (.cells #[.int .i64 cut, .int .i64 sh.Size, .int .i64 (sh.Sum.toNat : Int), .int .i64 sh.Arcs] 3)) (W3.drew.heap.size ≤ ·) (.slice (some ⟨W3.drew.heap.size, 0, none⟩) 4 4) [cut, sh.Size, (sh.Sum.toNat : Int), sh.Arcs] :=
                  (own_ints (World.ownsRow_lit W3.drew #[.int .i64 cut, .int .i64 sh.Size, .int .i64 (sh.Sum.toNat : Int), .int .i64 sh.Arcs] 4 (Nat.le_refl _) (by decide) (by simp))).sl
                have HC := Aside.mk (mfour_any hlit (by intro z hz; simp at hz; omega) (by simp))
                have HN5 : Aside (∀ w5, Below (W3.drew.alloc (.cells #[.int .i64 cut, .int .i64 sh.Size, .int .i64 (sh.Sum.toNat : Int), .int .i64 sh.Arcs] 3)).heap.size (W3.drew.alloc (.cells #[.int .i64 cut, .int .i64 sh.Size, .int .i64 (sh.Sum.toNat : Int), .int .i64 sh.Arcs] 3)) w5 → (w5.cell? ⟨w.heap.size, 2, none⟩ = some (.slice (some ⟨bq, oq, none⟩) m.Cuts.length ca) ∧ w5.cell? ⟨bq, oq + i, none⟩ = some (.int .i64 cut) ∧ w5.cell? ⟨w2.heap.size, 0, none⟩ = some (.int .i64 sh.Size) ∧ w5.cell? ⟨w2.heap.size, 1, none⟩ = some (.int .u32 sh.Sum.toNat) ∧ w5.cell? ⟨w2.heap.size, 2, none⟩ = some (.int .i64 sh.Arcs)) ∧ w5.cell? ⟨N + 1, 0, none⟩ = some (.slice none 0 0) ∧ EI w #[.int .i64 m.Gen, .int .i64 m.N, .slice (some ⟨bq, oq, none⟩) m.Cuts.length ca, .slice (some ⟨bs, os, none⟩) m.Shards.length cb, .slice Ac m.Degrees.length cc] N w5 (.slice A9 n9 c9) (vs ++ [.slice Ae ne ce]) (.slice none 0 0) ((List.range (i / 50)).map (rowS m)) ∧ EB N w5 (.slice A9 n9 c9) (vs ++ [.slice Ae ne ce]) (.slice none 0 0) (segS m (50 * (i / 50)) i) ∧ w2.heap.size < w5.heap.size) := ⟨fun w5 h5 => by
                  have hb := bthen bl2 bl2.size h5
                  exact ⟨hSof w5 hb, bcell hb cbN, HE3.out.1.below hb, HE3.out.2.below hb, Nat.lt_of_lt_of_le (blk_lt HSc3.out) hb.size⟩⟩
                have HN6 : Aside (∀ w5 w6 v6, (w5.cell? ⟨w.heap.size, 2, none⟩ = some (.slice (some ⟨bq, oq, none⟩) m.Cuts.length ca) ∧ w5.cell? ⟨bq, oq + i, none⟩ = some (.int .i64 cut) ∧ w5.cell? ⟨w2.heap.size, 0, none⟩ = some (.int .i64 sh.Size) ∧ w5.cell? ⟨w2.heap.size, 1, none⟩ = some (.int .u32 sh.Sum.toNat) ∧ w5.cell? ⟨w2.heap.size, 2, none⟩ = some (.int .i64 sh.Arcs)) → EI w #[.int .i64 m.Gen, .int .i64 m.N, .slice (some ⟨bq, oq, none⟩) m.Cuts.length ca, .slice (some ⟨bs, os, none⟩) m.Shards.length cb, .slice Ac m.Degrees.length cc] N w5 (.slice A9 n9 c9) (vs ++ [.slice Ae ne ce]) (.slice none 0 0) ((List.range (i / 50)).map (rowS m)) → EB N w5 (.slice A9 n9 c9) (vs ++ [.slice Ae ne ce]) (.slice none 0 0) (segS m (50 * (i / 50)) i) → w2.heap.size < w5.heap.size → w6.ownsRow (N + 2) 5 1 v6 ((segS m (50 * (i / 50)) i).length + 16) (u8s (segS m (50 * (i / 50)) i) ++ u8s (shB cut sh)) → w5.grownBy w6 ((.slice none 0 0) : Value).ownBlock → Moved w5 (.slice none 0 0) v6 →
                    (w6.cell? ⟨w.heap.size, 2, none⟩ = some (.slice (some ⟨bq, oq, none⟩) m.Cuts.length ca) ∧ w6.cell? ⟨bq, oq + i, none⟩ = some (.int .i64 cut) ∧ w6.cell? ⟨w2.heap.size, 0, none⟩ = some (.int .i64 sh.Size) ∧ w6.cell? ⟨w2.heap.size, 1, none⟩ = some (.int .u32 sh.Sum.toNat) ∧ w6.cell? ⟨w2.heap.size, 2, none⟩ = some (.int .i64 sh.Arcs)) ∧ ((w6.setCell ⟨N + 1, 0, none⟩ v6).cell? ⟨w.heap.size, 2, none⟩ = some (.slice (some ⟨bq, oq, none⟩) m.Cuts.length ca) ∧ (w6.setCell ⟨N + 1, 0, none⟩ v6).cell? ⟨bq, oq + i, none⟩ = some (.int .i64 cut) ∧ (w6.setCell ⟨N + 1, 0, none⟩ v6).cell? ⟨w2.heap.size, 0, none⟩ = some (.int .i64 sh.Size) ∧ (w6.setCell ⟨N + 1, 0, none⟩ v6).cell? ⟨w2.heap.size, 1, none⟩ = some (.int .u32 sh.Sum.toNat) ∧ (w6.setCell ⟨N + 1, 0, none⟩ v6).cell? ⟨w2.heap.size, 2, none⟩ = some (.int .i64 sh.Arcs)) ∧ w6.heap[N + 1]? = some (.cells #[(.slice none 0 0)] 44 (0, 0)) ∧ EI w #[.int .i64 m.Gen, .int .i64 m.N, .slice (some ⟨bq, oq, none⟩) m.Cuts.length ca, .slice (some ⟨bs, os, none⟩) m.Shards.length cb, .slice Ac m.Degrees.length cc] N (w6.setCell ⟨N + 1, 0, none⟩ v6) (.slice A9 n9 c9) (vs ++ [.slice Ae ne ce]) v6 ((List.range ((i + 1 - 1) / 50)).map (rowS m)) ∧ EB N (w6.setCell ⟨N + 1, 0, none⟩ v6) (.slice A9 n9 c9) (vs ++ [.slice Ae ne ce]) v6 (segS m (50 * ((i + 1 - 1) / 50)) (i + 1))) := ⟨fun w5 w6 v6 hS he hb hz ho hg hm => by
                  have hfar : ∀ (a : Addr) (u : Value), a.block < w5.heap.size → some a.block ≠ ((.slice none 0 0) : Value).ownBlock → w5.cell? a = some u → w6.cell? a = some u := fun a u h1 h2 h3 => (hg.cell_far a h1 h2).trans h3
                  have hlo : ∀ q, ((.slice none 0 0) : Value).ownBlock = some q → N + 2 ≤ q := fun q e => (hb.own.lt q e).1
                  have hlt := he.lt
                  have hsz := he.size
                  obtain ⟨g1, g2, g3⟩ := he.grow hb (w9 := w6) (v1 := v6) (ys := shB cut sh) (by rw [List.length_append, shB_len, u8s_append]; exact ho) hg hm
                  have hseg : segS m (50 * (i / 50)) i ++ shB cut sh = segS m (50 * (i / 50)) (i + 1) := by rw [segS_step m (by omega), HRow.out]
                  rw [hseg] at g3
                  have hn0 : w2.heap.size ≠ N + 1 := by have := HE.out.1.size; omega
                  have hS6 : (w6.cell? ⟨w.heap.size, 2, none⟩ = some (.slice (some ⟨bq, oq, none⟩) m.Cuts.length ca) ∧ w6.cell? ⟨bq, oq + i, none⟩ = some (.int .i64 cut) ∧ w6.cell? ⟨w2.heap.size, 0, none⟩ = some (.int .i64 sh.Size) ∧ w6.cell? ⟨w2.heap.size, 1, none⟩ = some (.int .u32 sh.Sum.toNat) ∧ w6.cell? ⟨w2.heap.size, 2, none⟩ = some (.int .i64 sh.Arcs)) := ⟨hfar _ _ (by show w.heap.size < _; omega) (fun e => by have := hlo _ e.symm; simp only at this; omega) hS.1, hfar _ _ (by show bq < _; omega) (fun e => by have := hlo _ e.symm; simp only at this; omega) hS.2.1, hfar _ _ hz (fun e => HSb3.out _ e.symm rfl) hS.2.2.1, hfar _ _ hz (fun e => HSb3.out _ e.symm rfl) hS.2.2.2.1, hfar _ _ hz (fun e => HSb3.out _ e.symm rfl) hS.2.2.2.2⟩
                  refine ⟨hS6, ⟨set_far (by show N + 1 ≠ w.heap.size; omega) hS6.1, set_far (by show N + 1 ≠ bq; omega) hS6.2.1, set_far (Ne.symm hn0) hS6.2.2.1, set_far (Ne.symm hn0) hS6.2.2.2.1, set_far (Ne.symm hn0) hS6.2.2.2.2⟩, g1, ?_, ?_⟩
                  · rw [Nat.add_sub_cancel]; exact g2
                  · rw [Nat.add_sub_cancel]; exact g3⟩
                have hseglen : (segS m (50 * (i / 50)) i).length ≤ 1000 := by rw [segS_len]; omega
                have HSl := Aside.mk hseglen
                have HFl : Aside (fours [cut, sh.Size, (sh.Sum.toNat : Int), sh.Arcs] = shB cut sh) := ⟨rfl⟩
                have HFn : Aside ((shB cut sh).length = 16) := ⟨shB_len _ _⟩
                obtain ⟨ii, hi2, hz0, hz1, hz2⟩ := info_parts Tryz.infoByte
                clear bl1 bl2 hSof hlit k2 kq s0 s1 s2 hseglen kbq
                go_upto_region 10 with (fail)
                refine wp_region_noPanic ?_
                refine wp_region_X 16 (fun w' => w'.cell? ⟨w.heap.size, 2, none⟩ = some (.slice (some ⟨bq, oq, none⟩) m.Cuts.length ca) ∧ w'.cell? ⟨bq, oq + i, none⟩ = some (.int .i64 cut) ∧ w'.cell? ⟨w2.heap.size, 0, none⟩ = some (.int .i64 sh.Size) ∧ w'.cell? ⟨w2.heap.size, 1, none⟩ = some (.int .u32 sh.Sum.toNat) ∧ w'.cell? ⟨w2.heap.size, 2, none⟩ = some (.int .i64 sh.Arcs) ∧ w'.cell? ⟨N + 1, 0, none⟩ = some (.slice none 0 0)) (by kernel_rfl) ?_
                have hH0 := And.intro hS0.1 (And.intro hS0.2.1 (And.intro hS0.2.2.1 (And.intro hS0.2.2.2.1 (And.intro hS0.2.2.2.2 kb0))))
                have hHA := And.intro hSA.1 (And.intro hSA.2.1 (And.intro hSA.2.2.1 (And.intro hSA.2.2.2.1 (And.intro hSA.2.2.2.2 kbA))))
                have hi1 : (i : Int) < (m.Cuts.length : Int) := by omega
                refine wpAnyX_take (i := 0) (oi := ⟨some 34, .load 44 (.tmp 6), _, _, _, _⟩) (v := (.slice none 0 0)) rfl (by kernel_rfl) (by kernel_rfl) (by kernel_rfl) (by kernel_rfl) (fun _ _ _ h => h) (Or.inl ⟨by rfl, ?_⟩) hH0 ?_
                · intro w' hSw
                  first | (go_simp; done) | (go_simp; rfl)
                simp only [Act.put, List.setIfInBounds_toArray, List.set_cons_zero, List.set_cons_succ]
                refine wpAnyX_take (i := 1) (oi := ⟨some 35, .fieldAddr 33 (.tmp 1) 2, _, _, _, _⟩) (v := .pointer (some ⟨w.heap.size, 2, none⟩)) rfl (by kernel_rfl) (by kernel_rfl) (by kernel_rfl) (by kernel_rfl) (fun _ _ _ h => h) (Or.inl ⟨by rfl, ?_⟩) hH0 ?_
                · intro w' hSw
                  first | (go_simp; done) | (go_simp; rfl)
                simp only [Act.put, List.setIfInBounds_toArray, List.set_cons_zero, List.set_cons_succ]
                refine wpAnyX_take (i := 2) (oi := ⟨some 36, .load 30 (.tmp 35), _, _, _, _⟩) (v := .slice (some ⟨bq, oq, none⟩) m.Cuts.length ca) rfl (by kernel_rfl) (by kernel_rfl) (by kernel_rfl) (by kernel_rfl) (fun _ _ _ h => h) (Or.inl ⟨by rfl, ?_⟩) hH0 ?_
                · intro w' hSw
                  first | (go_simp; done) | (go_simp; rfl)
                simp only [Act.put, List.setIfInBounds_toArray, List.set_cons_zero, List.set_cons_succ]
                refine wpAnyX_take (i := 3) (oi := ⟨some 37, .move (.tmp 7), _, _, _, _⟩) (v := .int .i64 i) rfl (by kernel_rfl) (by kernel_rfl) (by kernel_rfl) (by kernel_rfl) (fun _ _ _ h => h) (Or.inl ⟨by rfl, ?_⟩) hH0 ?_
                · intro w' hSw
                  first | (go_simp; done) | (go_simp; rfl)
                simp only [Act.put, List.setIfInBounds_toArray, List.set_cons_zero, List.set_cons_succ]
                refine wpAnyX_take (i := 4) (oi := ⟨some 38, .indexAddr 30 (.tmp 36) (.tmp 37), _, _, _, _⟩) (v := .pointer (some ⟨bq, oq + i, none⟩)) rfl (by kernel_rfl) (by kernel_rfl) (by kernel_rfl) (by kernel_rfl) (fun _ _ _ h => h) (Or.inl ⟨by rfl, ?_⟩) hH0 ?_
                · intro w' hSw
                  first | (go_simp; done) | (go_simp; rfl)
                simp only [Act.put, List.setIfInBounds_toArray, List.set_cons_zero, List.set_cons_succ]
                refine wpAnyX_take (i := 5) (oi := ⟨some 39, .load 3 (.tmp 38), _, _, _, _⟩) (v := .int .i64 cut) rfl (by kernel_rfl) (by kernel_rfl) (by kernel_rfl) (by kernel_rfl) (fun _ _ _ h => h) (Or.inl ⟨by rfl, ?_⟩) hH0 ?_
                · intro w' hSw
                  first | (go_simp; done) | (go_simp; rfl)
                simp only [Act.put, List.setIfInBounds_toArray, List.set_cons_zero, List.set_cons_succ]
                refine wpAnyX_take (i := 6) (oi := ⟨some 40, .fieldAddr 54 (.tmp 8) 0, _, _, _, _⟩) (v := .pointer (some ⟨w2.heap.size, 0, none⟩)) rfl (by kernel_rfl) (by kernel_rfl) (by kernel_rfl) (by kernel_rfl) (fun _ _ _ h => h) (Or.inl ⟨by rfl, ?_⟩) hH0 ?_
                · intro w' hSw
                  first | (go_simp; done) | (go_simp; rfl)
                simp only [Act.put, List.setIfInBounds_toArray, List.set_cons_zero, List.set_cons_succ]
                refine wpAnyX_take (i := 7) (oi := ⟨some 41, .load 3 (.tmp 40), _, _, _, _⟩) (v := .int .i64 sh.Size) rfl (by kernel_rfl) (by kernel_rfl) (by kernel_rfl) (by kernel_rfl) (fun _ _ _ h => h) (Or.inl ⟨by rfl, ?_⟩) hH0 ?_
                · intro w' hSw
                  first | (go_simp; done) | (go_simp; rfl)
                simp only [Act.put, List.setIfInBounds_toArray, List.set_cons_zero, List.set_cons_succ]
                refine wpAnyX_take (i := 8) (oi := ⟨some 42, .fieldAddr 54 (.tmp 8) 1, _, _, _, _⟩) (v := .pointer (some ⟨w2.heap.size, 1, none⟩)) rfl (by kernel_rfl) (by kernel_rfl) (by kernel_rfl) (by kernel_rfl) (fun _ _ _ h => h) (Or.inl ⟨by rfl, ?_⟩) hH0 ?_
                · intro w' hSw
                  first | (go_simp; done) | (go_simp; rfl)
                simp only [Act.put, List.setIfInBounds_toArray, List.set_cons_zero, List.set_cons_succ]
                refine wpAnyX_take (i := 9) (oi := ⟨some 43, .load 52 (.tmp 42), _, _, _, _⟩) (v := .int .u32 sh.Sum.toNat) rfl (by kernel_rfl) (by kernel_rfl) (by kernel_rfl) (by kernel_rfl) (fun _ _ _ h => h) (Or.inl ⟨by rfl, ?_⟩) hH0 ?_
                · intro w' hSw
                  first | (go_simp; done) | (go_simp; rfl)
                simp only [Act.put, List.setIfInBounds_toArray, List.set_cons_zero, List.set_cons_succ]
                refine wpAnyX_take (i := 10) (oi := ⟨some 44, .convert 52 3 (.tmp 43), _, _, _, _⟩) (v := .int .i64 (sh.Sum.toNat : Int)) rfl (by kernel_rfl) (by kernel_rfl) (by kernel_rfl) (by kernel_rfl) (fun _ _ _ h => h) (Or.inl ⟨by rfl, ?_⟩) hH0 ?_
                · intro w' hSw
                  first | (go_simp; done) | (go_simp; rfl)
                simp only [Act.put, List.setIfInBounds_toArray, List.set_cons_zero, List.set_cons_succ]
                refine wpAnyX_take (i := 11) (oi := ⟨some 45, .fieldAddr 54 (.tmp 8) 2, _, _, _, _⟩) (v := .pointer (some ⟨w2.heap.size, 2, none⟩)) rfl (by kernel_rfl) (by kernel_rfl) (by kernel_rfl) (by kernel_rfl) (fun _ _ _ h => h) (Or.inl ⟨by rfl, ?_⟩) hH0 ?_
                · intro w' hSw
                  first | (go_simp; done) | (go_simp; rfl)
                simp only [Act.put, List.setIfInBounds_toArray, List.set_cons_zero, List.set_cons_succ]
                refine wpAnyX_take (i := 12) (oi := ⟨some 46, .load 3 (.tmp 45), _, _, _, _⟩) (v := .int .i64 sh.Arcs) rfl (by kernel_rfl) (by kernel_rfl) (by kernel_rfl) (by kernel_rfl) (fun _ _ _ h => h) (Or.inl ⟨by rfl, ?_⟩) hH0 ?_
                · intro w' hSw
                  first | (go_simp; done) | (go_simp; rfl)
                simp only [Act.put, List.setIfInBounds_toArray, List.set_cons_zero, List.set_cons_succ]
                refine wpAnyX_one (i := 13) (oi := ⟨some 47, .buildSlice 30 4 #[(0, .tmp 39), (1, .tmp 41), (2, .tmp 44), (3, .tmp 46)], _, _, _, _⟩) rfl (by kernel_rfl) (fun K hK => ?_)
                go_simp
                refine hK _ _ ⟨.inr hHA, ?_⟩
                clear hK K
                try simp only [Act.put, List.setIfInBounds_toArray, List.set_cons_zero, List.set_cons_succ]
                refine wpAnyX_one (i := 14) (oi := ⟨some 48, .call { callee := .value (.func 50), args := #[.tmp 47], argTypes := #[30] }, _, _, _, _⟩) rfl (by kernel_rfl) (fun K hK => ?_)
                go_simp
                refine HC.out.mono ?_
                rw [HFl.out]
                rintro e w5 ⟨v4, rfl, ho4, B5⟩
                rw [HFn.out] at ho4
                obtain ⟨hS5, kb5, he5, hb5, hz5⟩ := HN5.out w5 B5
                obtain ⟨g4, cap4, rfl, hg4, hc4, hm4⟩ := row_sliceE ho4 (by decide)
                have hH5 := And.intro hS5.1 (And.intro hS5.2.1 (And.intro hS5.2.2.1 (And.intro hS5.2.2.2.1 (And.intro hS5.2.2.2.2 kb5))))
                refine hK _ _ ⟨.inr hH5, ?_⟩
                clear hK K
                try simp only [Act.put, List.setIfInBounds_toArray, List.set_cons_zero, List.set_cons_succ]
                refine wpAnyX_one (i := 15) (oi := ⟨some 49, .call { callee := .builtin .append, args := #[.tmp 34, .tmp 48], argTypes := #[44, 44] }, _, _, _, _⟩) rfl (by kernel_rfl) (fun K hK => ?_)
                refine step_append_lies (P := Tryz.prog) (w := w5) (by rfl) _ _ _ (by rfl) (N + 2) 5 ii _ 1 1 Tryz.underlying44 hi2 hz0 hz1 hz2 rfl (by decide) (.slice none 0 0) (segS m (50 * (i / 50)) i).length (u8s (segS m (50 * (i / 50)) i)) (by rfl) hb5.own ⟨_, 0, none⟩ 16 _ (u8s (shB cut sh)) (by rfl) (by rw [u8s_length, HFn.out]) (fun j u hj => ho4.cells rfl j u hj) (fun u hu => by unfold u8s at hu; obtain ⟨b, _, rfl⟩ := List.mem_map.1 hu; rfl) (by decide) (by simp only [maxLen]; have := HSl.out; omega) (by have := HSl.out; omega) he5.size _ rfl ?_
                intro g cap w6 hown hg hat hlt6
                obtain ⟨hS6, hS7, h6a, h6b, h6c⟩ := HN6.out w5 w6 _ hS5 he5 hb5 hz5 hown hg (by rcases hat with e | e; exact .inl (by rw [e]; rfl); exact .inr ⟨g, rfl, by omega⟩)
                obtain ⟨q1, q2, q3⟩ := store_at h6a 0 (show 0 < 1 by decide)
                simp only [List.getElem_toArray, List.getElem_cons_zero] at q1
                have hH6 := And.intro hS6.1 (And.intro hS6.2.1 (And.intro hS6.2.2.1 (And.intro hS6.2.2.2.1 (And.intro hS6.2.2.2.2 q1))))
                have HE6 := Aside.mk h6b
                have HB6 := Aside.mk h6c
                refine hK _ _ ⟨.inr hH6, ?_⟩
                clear hK K hown hg hat hlt6 h6a h6b h6c hS7
                try simp only [Act.put, List.setIfInBounds_toArray, List.set_cons_zero, List.set_cons_succ]
                refine wpAnyX_one (i := 16) (oi := ⟨none, .store 44 (.tmp 6) (.tmp 49), _, _, _, _⟩) rfl (by kernel_rfl) (fun K hK => ?_)
                go_simp
                refine hK _ _ ⟨.inl rfl, ?_⟩
                clear hK K
                try simp only [Act.put, List.setIfInBounds_toArray, List.set_cons_zero, List.set_cons_succ]
                refine wpAnyX_done (by kernel_rfl) (NoPanic.normal ?_) _
                go_wp2
                go_roundg (m.Shards.length - (i + 1))
                case measure => exact HM.out.1
                case rel => exact ⟨i + 1, _, _, _, ⟨HM.out.2⟩, by go_num, ⟨HE6.out, HB6.out⟩⟩
              · have hp' : decide (0 < i) = false := decide_eq_false hp
                have hp'' : decide ((0 : Int) < (i : Int)) = false := decide_eq_false (by omega)
                have e51 : (i - 1) / 50 = i / 50 := by omega
                clear hp h50
                obtain ⟨W3, hW3⟩ : ∃ W3, W3 = wc := ⟨_, rfl⟩
                have HE3 : Aside (EI w #[.int .i64 m.Gen, .int .i64 m.N, .slice Aa m.Cuts.length ca, .slice (some ⟨bs, os, none⟩) m.Shards.length cb, .slice Ac m.Degrees.length cc] N W3 (.slice Ad nd cd) vs (.slice Ae ne ce) ((List.range (i / 50)).map (rowS m)) ∧ EB N W3 (.slice Ad nd cd) vs (.slice Ae ne ce) (segS m (50 * (i / 50)) i)) := ⟨by rw [hW3, ← e51]; exact HE2.out⟩
                have HSc3 : Aside (W3.heap[w2.heap.size]? = some (.cells #[.int .i64 sh.Size, .int .u32 sh.Sum.toNat, .int .i64 sh.Arcs] 54 (0, 0))) := ⟨by rw [hW3]; exact HSc.out⟩
                have HSb3 : Aside (∀ q, (.slice Ae ne ce : Value).ownBlock = some q → q ≠ w2.heap.size) := ⟨fun q e => HSb.out q (.inr e)⟩
                rw [← hW3]
                clear hW3 e51
                obtain ⟨bq, oq, e, kq⟩ := HCutAt.out W3 HE3.out.1.bel
                cases e
                have kbq : bq < w.heap.size := by
                  obtain ⟨b', o', cs', e', _, h', _⟩ := H1.out.at i hic
                  cases e'
                  exact h'
                obtain ⟨-, -, k2, -, -⟩ := five HE3.out.1.mb
                obtain ⟨cbN, fbN, -⟩ := store_at HE3.out.1.bb 0 (show 0 < 1 by decide)
                simp only [List.getElem_toArray, List.getElem_cons_zero] at cbN
                have s0 := (store_at HSc3.out 0 (show 0 < 3 by decide)).1
                have s1 := (store_at HSc3.out 1 (show 1 < 3 by decide)).1
                have s2 := (store_at HSc3.out 2 (show 2 < 3 by decide)).1
                simp only [List.getElem_toArray, List.getElem_cons_zero, List.getElem_cons_succ] at s0 s1 s2
                have bl1 : Below W3.heap.size W3 W3.drew := bdrew1 (Below.refl _ _)
                have bl2 := bl1.alloc (Nat.le_refl _) (.cells #[.int .i64 cut, .int .i64 sh.Size, .int .i64 (sh.Sum.toNat : Int), .int .i64 sh.Arcs] 3)
                have hSof : ∀ w', Below W3.heap.size W3 w' → (w'.cell? ⟨w.heap.size, 2, none⟩ = some (.slice (some ⟨bq, oq, none⟩) m.Cuts.length ca) ∧ w'.cell? ⟨bq, oq + i, none⟩ = some (.int .i64 cut) ∧ w'.cell? ⟨w2.heap.size, 0, none⟩ = some (.int .i64 sh.Size) ∧ w'.cell? ⟨w2.heap.size, 1, none⟩ = some (.int .u32 sh.Sum.toNat) ∧ w'.cell? ⟨w2.heap.size, 2, none⟩ = some (.int .i64 sh.Arcs)) := fun w' hb => ⟨bcell hb k2, bcell hb kq, bcell hb s0, bcell hb s1, bcell hb s2⟩
                have hS0 := hSof _ bl1
                have hSA := hSof _ bl2
                have kb0 := bcell bl1 cbN
                have kbA := bcell bl2 cbN
                have h32 : sh.Sum.toNat < 4294967296 := sh.Sum.toNat_lt
                have hwr : IntKind.i64.wrap (sh.Sum.toNat : Int) = (sh.Sum.toNat : Int) := wrap_u32 sh.Sum
                have hlit : Sl kint (W3.drew.alloc (.cells #[.int .i64 cut, .int .i64 sh.Size, .int .i64 (sh.Sum.toNat : Int), .int .i64 sh.Arcs] 3)) (W3.drew.heap.size ≤ ·) (.slice (some ⟨W3.drew.heap.size, 0, none⟩) 4 4) [cut, sh.Size, (sh.Sum.toNat : Int), sh.Arcs] :=
                  (own_ints (World.ownsRow_lit W3.drew #[.int .i64 cut, .int .i64 sh.Size, .int .i64 (sh.Sum.toNat : Int), .int .i64 sh.Arcs] 4 (Nat.le_refl _) (by decide) (by simp))).sl
                have HC := Aside.mk (mfour_any hlit (by intro z hz; simp at hz; omega) (by simp))
                have HN5 : Aside (∀ w5, Below (W3.drew.alloc (.cells #[.int .i64 cut, .int .i64 sh.Size, .int .i64 (sh.Sum.toNat : Int), .int .i64 sh.Arcs] 3)).heap.size (W3.drew.alloc (.cells #[.int .i64 cut, .int .i64 sh.Size, .int .i64 (sh.Sum.toNat : Int), .int .i64 sh.Arcs] 3)) w5 → (w5.cell? ⟨w.heap.size, 2, none⟩ = some (.slice (some ⟨bq, oq, none⟩) m.Cuts.length ca) ∧ w5.cell? ⟨bq, oq + i, none⟩ = some (.int .i64 cut) ∧ w5.cell? ⟨w2.heap.size, 0, none⟩ = some (.int .i64 sh.Size) ∧ w5.cell? ⟨w2.heap.size, 1, none⟩ = some (.int .u32 sh.Sum.toNat) ∧ w5.cell? ⟨w2.heap.size, 2, none⟩ = some (.int .i64 sh.Arcs)) ∧ w5.cell? ⟨N + 1, 0, none⟩ = some (.slice Ae ne ce) ∧ EI w #[.int .i64 m.Gen, .int .i64 m.N, .slice (some ⟨bq, oq, none⟩) m.Cuts.length ca, .slice (some ⟨bs, os, none⟩) m.Shards.length cb, .slice Ac m.Degrees.length cc] N w5 (.slice Ad nd cd) vs (.slice Ae ne ce) ((List.range (i / 50)).map (rowS m)) ∧ EB N w5 (.slice Ad nd cd) vs (.slice Ae ne ce) (segS m (50 * (i / 50)) i) ∧ w2.heap.size < w5.heap.size) := ⟨fun w5 h5 => by
                  have hb := bthen bl2 bl2.size h5
                  exact ⟨hSof w5 hb, bcell hb cbN, HE3.out.1.below hb, HE3.out.2.below hb, Nat.lt_of_lt_of_le (blk_lt HSc3.out) hb.size⟩⟩
                have HN6 : Aside (∀ w5 w6 v6, (w5.cell? ⟨w.heap.size, 2, none⟩ = some (.slice (some ⟨bq, oq, none⟩) m.Cuts.length ca) ∧ w5.cell? ⟨bq, oq + i, none⟩ = some (.int .i64 cut) ∧ w5.cell? ⟨w2.heap.size, 0, none⟩ = some (.int .i64 sh.Size) ∧ w5.cell? ⟨w2.heap.size, 1, none⟩ = some (.int .u32 sh.Sum.toNat) ∧ w5.cell? ⟨w2.heap.size, 2, none⟩ = some (.int .i64 sh.Arcs)) → EI w #[.int .i64 m.Gen, .int .i64 m.N, .slice (some ⟨bq, oq, none⟩) m.Cuts.length ca, .slice (some ⟨bs, os, none⟩) m.Shards.length cb, .slice Ac m.Degrees.length cc] N w5 (.slice Ad nd cd) vs (.slice Ae ne ce) ((List.range (i / 50)).map (rowS m)) → EB N w5 (.slice Ad nd cd) vs (.slice Ae ne ce) (segS m (50 * (i / 50)) i) → w2.heap.size < w5.heap.size → w6.ownsRow (N + 2) 5 1 v6 ((segS m (50 * (i / 50)) i).length + 16) (u8s (segS m (50 * (i / 50)) i) ++ u8s (shB cut sh)) → w5.grownBy w6 ((.slice Ae ne ce) : Value).ownBlock → Moved w5 (.slice Ae ne ce) v6 →
                    (w6.cell? ⟨w.heap.size, 2, none⟩ = some (.slice (some ⟨bq, oq, none⟩) m.Cuts.length ca) ∧ w6.cell? ⟨bq, oq + i, none⟩ = some (.int .i64 cut) ∧ w6.cell? ⟨w2.heap.size, 0, none⟩ = some (.int .i64 sh.Size) ∧ w6.cell? ⟨w2.heap.size, 1, none⟩ = some (.int .u32 sh.Sum.toNat) ∧ w6.cell? ⟨w2.heap.size, 2, none⟩ = some (.int .i64 sh.Arcs)) ∧ ((w6.setCell ⟨N + 1, 0, none⟩ v6).cell? ⟨w.heap.size, 2, none⟩ = some (.slice (some ⟨bq, oq, none⟩) m.Cuts.length ca) ∧ (w6.setCell ⟨N + 1, 0, none⟩ v6).cell? ⟨bq, oq + i, none⟩ = some (.int .i64 cut) ∧ (w6.setCell ⟨N + 1, 0, none⟩ v6).cell? ⟨w2.heap.size, 0, none⟩ = some (.int .i64 sh.Size) ∧ (w6.setCell ⟨N + 1, 0, none⟩ v6).cell? ⟨w2.heap.size, 1, none⟩ = some (.int .u32 sh.Sum.toNat) ∧ (w6.setCell ⟨N + 1, 0, none⟩ v6).cell? ⟨w2.heap.size, 2, none⟩ = some (.int .i64 sh.Arcs)) ∧ w6.heap[N + 1]? = some (.cells #[(.slice Ae ne ce)] 44 (0, 0)) ∧ EI w #[.int .i64 m.Gen, .int .i64 m.N, .slice (some ⟨bq, oq, none⟩) m.Cuts.length ca, .slice (some ⟨bs, os, none⟩) m.Shards.length cb, .slice Ac m.Degrees.length cc] N (w6.setCell ⟨N + 1, 0, none⟩ v6) (.slice Ad nd cd) vs v6 ((List.range ((i + 1 - 1) / 50)).map (rowS m)) ∧ EB N (w6.setCell ⟨N + 1, 0, none⟩ v6) (.slice Ad nd cd) vs v6 (segS m (50 * ((i + 1 - 1) / 50)) (i + 1))) := ⟨fun w5 w6 v6 hS he hb hz ho hg hm => by
                  have hfar : ∀ (a : Addr) (u : Value), a.block < w5.heap.size → some a.block ≠ ((.slice Ae ne ce) : Value).ownBlock → w5.cell? a = some u → w6.cell? a = some u := fun a u h1 h2 h3 => (hg.cell_far a h1 h2).trans h3
                  have hlo : ∀ q, ((.slice Ae ne ce) : Value).ownBlock = some q → N + 2 ≤ q := fun q e => (hb.own.lt q e).1
                  have hlt := he.lt
                  have hsz := he.size
                  obtain ⟨g1, g2, g3⟩ := he.grow hb (w9 := w6) (v1 := v6) (ys := shB cut sh) (by rw [List.length_append, shB_len, u8s_append]; exact ho) hg hm
                  have hseg : segS m (50 * (i / 50)) i ++ shB cut sh = segS m (50 * (i / 50)) (i + 1) := by rw [segS_step m (by omega), HRow.out]
                  rw [hseg] at g3
                  have hn0 : w2.heap.size ≠ N + 1 := by have := HE.out.1.size; omega
                  have hS6 : (w6.cell? ⟨w.heap.size, 2, none⟩ = some (.slice (some ⟨bq, oq, none⟩) m.Cuts.length ca) ∧ w6.cell? ⟨bq, oq + i, none⟩ = some (.int .i64 cut) ∧ w6.cell? ⟨w2.heap.size, 0, none⟩ = some (.int .i64 sh.Size) ∧ w6.cell? ⟨w2.heap.size, 1, none⟩ = some (.int .u32 sh.Sum.toNat) ∧ w6.cell? ⟨w2.heap.size, 2, none⟩ = some (.int .i64 sh.Arcs)) := ⟨hfar _ _ (by show w.heap.size < _; omega) (fun e => by have := hlo _ e.symm; simp only at this; omega) hS.1, hfar _ _ (by show bq < _; omega) (fun e => by have := hlo _ e.symm; simp only at this; omega) hS.2.1, hfar _ _ hz (fun e => HSb3.out _ e.symm rfl) hS.2.2.1, hfar _ _ hz (fun e => HSb3.out _ e.symm rfl) hS.2.2.2.1, hfar _ _ hz (fun e => HSb3.out _ e.symm rfl) hS.2.2.2.2⟩
                  refine ⟨hS6, ⟨set_far (by show N + 1 ≠ w.heap.size; omega) hS6.1, set_far (by show N + 1 ≠ bq; omega) hS6.2.1, set_far (Ne.symm hn0) hS6.2.2.1, set_far (Ne.symm hn0) hS6.2.2.2.1, set_far (Ne.symm hn0) hS6.2.2.2.2⟩, g1, ?_, ?_⟩
                  · rw [Nat.add_sub_cancel]; exact g2
                  · rw [Nat.add_sub_cancel]; exact g3⟩
                have hseglen : (segS m (50 * (i / 50)) i).length ≤ 1000 := by rw [segS_len]; omega
                have HSl := Aside.mk hseglen
                have HFl : Aside (fours [cut, sh.Size, (sh.Sum.toNat : Int), sh.Arcs] = shB cut sh) := ⟨rfl⟩
                have HFn : Aside ((shB cut sh).length = 16) := ⟨shB_len _ _⟩
                obtain ⟨ii, hi2, hz0, hz1, hz2⟩ := info_parts Tryz.infoByte
                clear bl1 bl2 hSof hlit k2 kq s0 s1 s2 hseglen kbq
                go_upto_region 10 with (fail)
                refine wp_region_noPanic ?_
                refine wp_region_X 16 (fun w' => w'.cell? ⟨w.heap.size, 2, none⟩ = some (.slice (some ⟨bq, oq, none⟩) m.Cuts.length ca) ∧ w'.cell? ⟨bq, oq + i, none⟩ = some (.int .i64 cut) ∧ w'.cell? ⟨w2.heap.size, 0, none⟩ = some (.int .i64 sh.Size) ∧ w'.cell? ⟨w2.heap.size, 1, none⟩ = some (.int .u32 sh.Sum.toNat) ∧ w'.cell? ⟨w2.heap.size, 2, none⟩ = some (.int .i64 sh.Arcs) ∧ w'.cell? ⟨N + 1, 0, none⟩ = some (.slice Ae ne ce)) (by kernel_rfl) ?_
                have hH0 := And.intro hS0.1 (And.intro hS0.2.1 (And.intro hS0.2.2.1 (And.intro hS0.2.2.2.1 (And.intro hS0.2.2.2.2 kb0))))
                have hHA := And.intro hSA.1 (And.intro hSA.2.1 (And.intro hSA.2.2.1 (And.intro hSA.2.2.2.1 (And.intro hSA.2.2.2.2 kbA))))
                have hi1 : (i : Int) < (m.Cuts.length : Int) := by omega
                refine wpAnyX_take (i := 0) (oi := ⟨some 34, .load 44 (.tmp 6), _, _, _, _⟩) (v := (.slice Ae ne ce)) rfl (by kernel_rfl) (by kernel_rfl) (by kernel_rfl) (by kernel_rfl) (fun _ _ _ h => h) (Or.inl ⟨by rfl, ?_⟩) hH0 ?_
                · intro w' hSw
                  first | (go_simp; done) | (go_simp; rfl)
                simp only [Act.put, List.setIfInBounds_toArray, List.set_cons_zero, List.set_cons_succ]
                refine wpAnyX_take (i := 1) (oi := ⟨some 35, .fieldAddr 33 (.tmp 1) 2, _, _, _, _⟩) (v := .pointer (some ⟨w.heap.size, 2, none⟩)) rfl (by kernel_rfl) (by kernel_rfl) (by kernel_rfl) (by kernel_rfl) (fun _ _ _ h => h) (Or.inl ⟨by rfl, ?_⟩) hH0 ?_
                · intro w' hSw
                  first | (go_simp; done) | (go_simp; rfl)
                simp only [Act.put, List.setIfInBounds_toArray, List.set_cons_zero, List.set_cons_succ]
                refine wpAnyX_take (i := 2) (oi := ⟨some 36, .load 30 (.tmp 35), _, _, _, _⟩) (v := .slice (some ⟨bq, oq, none⟩) m.Cuts.length ca) rfl (by kernel_rfl) (by kernel_rfl) (by kernel_rfl) (by kernel_rfl) (fun _ _ _ h => h) (Or.inl ⟨by rfl, ?_⟩) hH0 ?_
                · intro w' hSw
                  first | (go_simp; done) | (go_simp; rfl)
                simp only [Act.put, List.setIfInBounds_toArray, List.set_cons_zero, List.set_cons_succ]
                refine wpAnyX_take (i := 3) (oi := ⟨some 37, .move (.tmp 7), _, _, _, _⟩) (v := .int .i64 i) rfl (by kernel_rfl) (by kernel_rfl) (by kernel_rfl) (by kernel_rfl) (fun _ _ _ h => h) (Or.inl ⟨by rfl, ?_⟩) hH0 ?_
                · intro w' hSw
                  first | (go_simp; done) | (go_simp; rfl)
                simp only [Act.put, List.setIfInBounds_toArray, List.set_cons_zero, List.set_cons_succ]
                refine wpAnyX_take (i := 4) (oi := ⟨some 38, .indexAddr 30 (.tmp 36) (.tmp 37), _, _, _, _⟩) (v := .pointer (some ⟨bq, oq + i, none⟩)) rfl (by kernel_rfl) (by kernel_rfl) (by kernel_rfl) (by kernel_rfl) (fun _ _ _ h => h) (Or.inl ⟨by rfl, ?_⟩) hH0 ?_
                · intro w' hSw
                  first | (go_simp; done) | (go_simp; rfl)
                simp only [Act.put, List.setIfInBounds_toArray, List.set_cons_zero, List.set_cons_succ]
                refine wpAnyX_take (i := 5) (oi := ⟨some 39, .load 3 (.tmp 38), _, _, _, _⟩) (v := .int .i64 cut) rfl (by kernel_rfl) (by kernel_rfl) (by kernel_rfl) (by kernel_rfl) (fun _ _ _ h => h) (Or.inl ⟨by rfl, ?_⟩) hH0 ?_
                · intro w' hSw
                  first | (go_simp; done) | (go_simp; rfl)
                simp only [Act.put, List.setIfInBounds_toArray, List.set_cons_zero, List.set_cons_succ]
                refine wpAnyX_take (i := 6) (oi := ⟨some 40, .fieldAddr 54 (.tmp 8) 0, _, _, _, _⟩) (v := .pointer (some ⟨w2.heap.size, 0, none⟩)) rfl (by kernel_rfl) (by kernel_rfl) (by kernel_rfl) (by kernel_rfl) (fun _ _ _ h => h) (Or.inl ⟨by rfl, ?_⟩) hH0 ?_
                · intro w' hSw
                  first | (go_simp; done) | (go_simp; rfl)
                simp only [Act.put, List.setIfInBounds_toArray, List.set_cons_zero, List.set_cons_succ]
                refine wpAnyX_take (i := 7) (oi := ⟨some 41, .load 3 (.tmp 40), _, _, _, _⟩) (v := .int .i64 sh.Size) rfl (by kernel_rfl) (by kernel_rfl) (by kernel_rfl) (by kernel_rfl) (fun _ _ _ h => h) (Or.inl ⟨by rfl, ?_⟩) hH0 ?_
                · intro w' hSw
                  first | (go_simp; done) | (go_simp; rfl)
                simp only [Act.put, List.setIfInBounds_toArray, List.set_cons_zero, List.set_cons_succ]
                refine wpAnyX_take (i := 8) (oi := ⟨some 42, .fieldAddr 54 (.tmp 8) 1, _, _, _, _⟩) (v := .pointer (some ⟨w2.heap.size, 1, none⟩)) rfl (by kernel_rfl) (by kernel_rfl) (by kernel_rfl) (by kernel_rfl) (fun _ _ _ h => h) (Or.inl ⟨by rfl, ?_⟩) hH0 ?_
                · intro w' hSw
                  first | (go_simp; done) | (go_simp; rfl)
                simp only [Act.put, List.setIfInBounds_toArray, List.set_cons_zero, List.set_cons_succ]
                refine wpAnyX_take (i := 9) (oi := ⟨some 43, .load 52 (.tmp 42), _, _, _, _⟩) (v := .int .u32 sh.Sum.toNat) rfl (by kernel_rfl) (by kernel_rfl) (by kernel_rfl) (by kernel_rfl) (fun _ _ _ h => h) (Or.inl ⟨by rfl, ?_⟩) hH0 ?_
                · intro w' hSw
                  first | (go_simp; done) | (go_simp; rfl)
                simp only [Act.put, List.setIfInBounds_toArray, List.set_cons_zero, List.set_cons_succ]
                refine wpAnyX_take (i := 10) (oi := ⟨some 44, .convert 52 3 (.tmp 43), _, _, _, _⟩) (v := .int .i64 (sh.Sum.toNat : Int)) rfl (by kernel_rfl) (by kernel_rfl) (by kernel_rfl) (by kernel_rfl) (fun _ _ _ h => h) (Or.inl ⟨by rfl, ?_⟩) hH0 ?_
                · intro w' hSw
                  first | (go_simp; done) | (go_simp; rfl)
                simp only [Act.put, List.setIfInBounds_toArray, List.set_cons_zero, List.set_cons_succ]
                refine wpAnyX_take (i := 11) (oi := ⟨some 45, .fieldAddr 54 (.tmp 8) 2, _, _, _, _⟩) (v := .pointer (some ⟨w2.heap.size, 2, none⟩)) rfl (by kernel_rfl) (by kernel_rfl) (by kernel_rfl) (by kernel_rfl) (fun _ _ _ h => h) (Or.inl ⟨by rfl, ?_⟩) hH0 ?_
                · intro w' hSw
                  first | (go_simp; done) | (go_simp; rfl)
                simp only [Act.put, List.setIfInBounds_toArray, List.set_cons_zero, List.set_cons_succ]
                refine wpAnyX_take (i := 12) (oi := ⟨some 46, .load 3 (.tmp 45), _, _, _, _⟩) (v := .int .i64 sh.Arcs) rfl (by kernel_rfl) (by kernel_rfl) (by kernel_rfl) (by kernel_rfl) (fun _ _ _ h => h) (Or.inl ⟨by rfl, ?_⟩) hH0 ?_
                · intro w' hSw
                  first | (go_simp; done) | (go_simp; rfl)
                simp only [Act.put, List.setIfInBounds_toArray, List.set_cons_zero, List.set_cons_succ]
                refine wpAnyX_one (i := 13) (oi := ⟨some 47, .buildSlice 30 4 #[(0, .tmp 39), (1, .tmp 41), (2, .tmp 44), (3, .tmp 46)], _, _, _, _⟩) rfl (by kernel_rfl) (fun K hK => ?_)
                go_simp
                refine hK _ _ ⟨.inr hHA, ?_⟩
                clear hK K
                try simp only [Act.put, List.setIfInBounds_toArray, List.set_cons_zero, List.set_cons_succ]
                refine wpAnyX_one (i := 14) (oi := ⟨some 48, .call { callee := .value (.func 50), args := #[.tmp 47], argTypes := #[30] }, _, _, _, _⟩) rfl (by kernel_rfl) (fun K hK => ?_)
                go_simp
                refine HC.out.mono ?_
                rw [HFl.out]
                rintro e w5 ⟨v4, rfl, ho4, B5⟩
                rw [HFn.out] at ho4
                obtain ⟨hS5, kb5, he5, hb5, hz5⟩ := HN5.out w5 B5
                obtain ⟨g4, cap4, rfl, hg4, hc4, hm4⟩ := row_sliceE ho4 (by decide)
                have hH5 := And.intro hS5.1 (And.intro hS5.2.1 (And.intro hS5.2.2.1 (And.intro hS5.2.2.2.1 (And.intro hS5.2.2.2.2 kb5))))
                refine hK _ _ ⟨.inr hH5, ?_⟩
                clear hK K
                try simp only [Act.put, List.setIfInBounds_toArray, List.set_cons_zero, List.set_cons_succ]
                refine wpAnyX_one (i := 15) (oi := ⟨some 49, .call { callee := .builtin .append, args := #[.tmp 34, .tmp 48], argTypes := #[44, 44] }, _, _, _, _⟩) rfl (by kernel_rfl) (fun K hK => ?_)
                refine step_append_lies (P := Tryz.prog) (w := w5) (by rfl) _ _ _ (by rfl) (N + 2) 5 ii _ 1 1 Tryz.underlying44 hi2 hz0 hz1 hz2 rfl (by decide) (.slice Ae ne ce) (segS m (50 * (i / 50)) i).length (u8s (segS m (50 * (i / 50)) i)) (by rfl) hb5.own ⟨_, 0, none⟩ 16 _ (u8s (shB cut sh)) (by rfl) (by rw [u8s_length, HFn.out]) (fun j u hj => ho4.cells rfl j u hj) (fun u hu => by unfold u8s at hu; obtain ⟨b, _, rfl⟩ := List.mem_map.1 hu; rfl) (by decide) (by simp only [maxLen]; have := HSl.out; omega) (by have := HSl.out; omega) he5.size _ rfl ?_
                intro g cap w6 hown hg hat hlt6
                obtain ⟨hS6, hS7, h6a, h6b, h6c⟩ := HN6.out w5 w6 _ hS5 he5 hb5 hz5 hown hg (by rcases hat with e | e; exact .inl (by rw [e]; rfl); exact .inr ⟨g, rfl, by omega⟩)
                obtain ⟨q1, q2, q3⟩ := store_at h6a 0 (show 0 < 1 by decide)
                simp only [List.getElem_toArray, List.getElem_cons_zero] at q1
                have hH6 := And.intro hS6.1 (And.intro hS6.2.1 (And.intro hS6.2.2.1 (And.intro hS6.2.2.2.1 (And.intro hS6.2.2.2.2 q1))))
                have HE6 := Aside.mk h6b
                have HB6 := Aside.mk h6c
                refine hK _ _ ⟨.inr hH6, ?_⟩
                clear hK K hown hg hat hlt6 h6a h6b h6c hS7
                try simp only [Act.put, List.setIfInBounds_toArray, List.set_cons_zero, List.set_cons_succ]
                refine wpAnyX_one (i := 16) (oi := ⟨none, .store 44 (.tmp 6) (.tmp 49), _, _, _, _⟩) rfl (by kernel_rfl) (fun K hK => ?_)
                go_simp
                refine hK _ _ ⟨.inl rfl, ?_⟩
                clear hK K
                try simp only [Act.put, List.setIfInBounds_toArray, List.set_cons_zero, List.set_cons_succ]
                refine wpAnyX_done (by kernel_rfl) (NoPanic.normal ?_) _
                go_wp2
                go_roundg (m.Shards.length - (i + 1))
                case measure => exact HM.out.1
                case rel => exact ⟨i + 1, _, _, _, ⟨HM.out.2⟩, by go_num, ⟨HE6.out, HB6.out⟩⟩
            · have e50 : ((i : Int) % 50 == 0) = false := by simp; omega
              have e51 : (i - 1) / 50 = i / 50 := by omega
              obtain ⟨W3, hW3⟩ : ∃ W3, W3 = wc := ⟨_, rfl⟩
              have HE3 : Aside (EI w #[.int .i64 m.Gen, .int .i64 m.N, .slice Aa m.Cuts.length ca, .slice (some ⟨bs, os, none⟩) m.Shards.length cb, .slice Ac m.Degrees.length cc] N W3 (.slice Ad nd cd) vs (.slice Ae ne ce) ((List.range (i / 50)).map (rowS m)) ∧ EB N W3 (.slice Ad nd cd) vs (.slice Ae ne ce) (segS m (50 * (i / 50)) i)) := ⟨by rw [hW3, ← e51]; exact HE2.out⟩
              have HSc3 : Aside (W3.heap[w2.heap.size]? = some (.cells #[.int .i64 sh.Size, .int .u32 sh.Sum.toNat, .int .i64 sh.Arcs] 54 (0, 0))) := ⟨by rw [hW3]; exact HSc.out⟩
              have HSb3 : Aside (∀ q, (.slice Ae ne ce : Value).ownBlock = some q → q ≠ w2.heap.size) := ⟨fun q e => HSb.out q (.inr e)⟩
              rw [← hW3]
              clear hW3 e51
              obtain ⟨bq, oq, e, kq⟩ := HCutAt.out W3 HE3.out.1.bel
              cases e
              have kbq : bq < w.heap.size := by
                obtain ⟨b', o', cs', e', _, h', _⟩ := H1.out.at i hic
                cases e'
                exact h'
              obtain ⟨-, -, k2, -, -⟩ := five HE3.out.1.mb
              obtain ⟨cbN, fbN, -⟩ := store_at HE3.out.1.bb 0 (show 0 < 1 by decide)
              simp only [List.getElem_toArray, List.getElem_cons_zero] at cbN
              have s0 := (store_at HSc3.out 0 (show 0 < 3 by decide)).1
              have s1 := (store_at HSc3.out 1 (show 1 < 3 by decide)).1
              have s2 := (store_at HSc3.out 2 (show 2 < 3 by decide)).1
              simp only [List.getElem_toArray, List.getElem_cons_zero, List.getElem_cons_succ] at s0 s1 s2
              have bl1 : Below W3.heap.size W3 W3.drew := bdrew1 (Below.refl _ _)
              have bl2 := bl1.alloc (Nat.le_refl _) (.cells #[.int .i64 cut, .int .i64 sh.Size, .int .i64 (sh.Sum.toNat : Int), .int .i64 sh.Arcs] 3)
              have hSof : ∀ w', Below W3.heap.size W3 w' → (w'.cell? ⟨w.heap.size, 2, none⟩ = some (.slice (some ⟨bq, oq, none⟩) m.Cuts.length ca) ∧ w'.cell? ⟨bq, oq + i, none⟩ = some (.int .i64 cut) ∧ w'.cell? ⟨w2.heap.size, 0, none⟩ = some (.int .i64 sh.Size) ∧ w'.cell? ⟨w2.heap.size, 1, none⟩ = some (.int .u32 sh.Sum.toNat) ∧ w'.cell? ⟨w2.heap.size, 2, none⟩ = some (.int .i64 sh.Arcs)) := fun w' hb => ⟨bcell hb k2, bcell hb kq, bcell hb s0, bcell hb s1, bcell hb s2⟩
              have hS0 := hSof _ bl1
              have hSA := hSof _ bl2
              have kb0 := bcell bl1 cbN
              have kbA := bcell bl2 cbN
              have h32 : sh.Sum.toNat < 4294967296 := sh.Sum.toNat_lt
              have hwr : IntKind.i64.wrap (sh.Sum.toNat : Int) = (sh.Sum.toNat : Int) := wrap_u32 sh.Sum
              have hlit : Sl kint (W3.drew.alloc (.cells #[.int .i64 cut, .int .i64 sh.Size, .int .i64 (sh.Sum.toNat : Int), .int .i64 sh.Arcs] 3)) (W3.drew.heap.size ≤ ·) (.slice (some ⟨W3.drew.heap.size, 0, none⟩) 4 4) [cut, sh.Size, (sh.Sum.toNat : Int), sh.Arcs] :=
                (own_ints (World.ownsRow_lit W3.drew #[.int .i64 cut, .int .i64 sh.Size, .int .i64 (sh.Sum.toNat : Int), .int .i64 sh.Arcs] 4 (Nat.le_refl _) (by decide) (by simp))).sl
              have HC := Aside.mk (mfour_any hlit (by intro z hz; simp at hz; omega) (by simp))
              have HN5 : Aside (∀ w5, Below (W3.drew.alloc (.cells #[.int .i64 cut, .int .i64 sh.Size, .int .i64 (sh.Sum.toNat : Int), .int .i64 sh.Arcs] 3)).heap.size (W3.drew.alloc (.cells #[.int .i64 cut, .int .i64 sh.Size, .int .i64 (sh.Sum.toNat : Int), .int .i64 sh.Arcs] 3)) w5 → (w5.cell? ⟨w.heap.size, 2, none⟩ = some (.slice (some ⟨bq, oq, none⟩) m.Cuts.length ca) ∧ w5.cell? ⟨bq, oq + i, none⟩ = some (.int .i64 cut) ∧ w5.cell? ⟨w2.heap.size, 0, none⟩ = some (.int .i64 sh.Size) ∧ w5.cell? ⟨w2.heap.size, 1, none⟩ = some (.int .u32 sh.Sum.toNat) ∧ w5.cell? ⟨w2.heap.size, 2, none⟩ = some (.int .i64 sh.Arcs)) ∧ w5.cell? ⟨N + 1, 0, none⟩ = some (.slice Ae ne ce) ∧ EI w #[.int .i64 m.Gen, .int .i64 m.N, .slice (some ⟨bq, oq, none⟩) m.Cuts.length ca, .slice (some ⟨bs, os, none⟩) m.Shards.length cb, .slice Ac m.Degrees.length cc] N w5 (.slice Ad nd cd) vs (.slice Ae ne ce) ((List.range (i / 50)).map (rowS m)) ∧ EB N w5 (.slice Ad nd cd) vs (.slice Ae ne ce) (segS m (50 * (i / 50)) i) ∧ w2.heap.size < w5.heap.size) := ⟨fun w5 h5 => by
                have hb := bthen bl2 bl2.size h5
                exact ⟨hSof w5 hb, bcell hb cbN, HE3.out.1.below hb, HE3.out.2.below hb, Nat.lt_of_lt_of_le (blk_lt HSc3.out) hb.size⟩⟩
              have HN6 : Aside (∀ w5 w6 v6, (w5.cell? ⟨w.heap.size, 2, none⟩ = some (.slice (some ⟨bq, oq, none⟩) m.Cuts.length ca) ∧ w5.cell? ⟨bq, oq + i, none⟩ = some (.int .i64 cut) ∧ w5.cell? ⟨w2.heap.size, 0, none⟩ = some (.int .i64 sh.Size) ∧ w5.cell? ⟨w2.heap.size, 1, none⟩ = some (.int .u32 sh.Sum.toNat) ∧ w5.cell? ⟨w2.heap.size, 2, none⟩ = some (.int .i64 sh.Arcs)) → EI w #[.int .i64 m.Gen, .int .i64 m.N, .slice (some ⟨bq, oq, none⟩) m.Cuts.length ca, .slice (some ⟨bs, os, none⟩) m.Shards.length cb, .slice Ac m.Degrees.length cc] N w5 (.slice Ad nd cd) vs (.slice Ae ne ce) ((List.range (i / 50)).map (rowS m)) → EB N w5 (.slice Ad nd cd) vs (.slice Ae ne ce) (segS m (50 * (i / 50)) i) → w2.heap.size < w5.heap.size → w6.ownsRow (N + 2) 5 1 v6 ((segS m (50 * (i / 50)) i).length + 16) (u8s (segS m (50 * (i / 50)) i) ++ u8s (shB cut sh)) → w5.grownBy w6 ((.slice Ae ne ce) : Value).ownBlock → Moved w5 (.slice Ae ne ce) v6 →
                  (w6.cell? ⟨w.heap.size, 2, none⟩ = some (.slice (some ⟨bq, oq, none⟩) m.Cuts.length ca) ∧ w6.cell? ⟨bq, oq + i, none⟩ = some (.int .i64 cut) ∧ w6.cell? ⟨w2.heap.size, 0, none⟩ = some (.int .i64 sh.Size) ∧ w6.cell? ⟨w2.heap.size, 1, none⟩ = some (.int .u32 sh.Sum.toNat) ∧ w6.cell? ⟨w2.heap.size, 2, none⟩ = some (.int .i64 sh.Arcs)) ∧ ((w6.setCell ⟨N + 1, 0, none⟩ v6).cell? ⟨w.heap.size, 2, none⟩ = some (.slice (some ⟨bq, oq, none⟩) m.Cuts.length ca) ∧ (w6.setCell ⟨N + 1, 0, none⟩ v6).cell? ⟨bq, oq + i, none⟩ = some (.int .i64 cut) ∧ (w6.setCell ⟨N + 1, 0, none⟩ v6).cell? ⟨w2.heap.size, 0, none⟩ = some (.int .i64 sh.Size) ∧ (w6.setCell ⟨N + 1, 0, none⟩ v6).cell? ⟨w2.heap.size, 1, none⟩ = some (.int .u32 sh.Sum.toNat) ∧ (w6.setCell ⟨N + 1, 0, none⟩ v6).cell? ⟨w2.heap.size, 2, none⟩ = some (.int .i64 sh.Arcs)) ∧ w6.heap[N + 1]? = some (.cells #[(.slice Ae ne ce)] 44 (0, 0)) ∧ EI w #[.int .i64 m.Gen, .int .i64 m.N, .slice (some ⟨bq, oq, none⟩) m.Cuts.length ca, .slice (some ⟨bs, os, none⟩) m.Shards.length cb, .slice Ac m.Degrees.length cc] N (w6.setCell ⟨N + 1, 0, none⟩ v6) (.slice Ad nd cd) vs v6 ((List.range ((i + 1 - 1) / 50)).map (rowS m)) ∧ EB N (w6.setCell ⟨N + 1, 0, none⟩ v6) (.slice Ad nd cd) vs v6 (segS m (50 * ((i + 1 - 1) / 50)) (i + 1))) := ⟨fun w5 w6 v6 hS he hb hz ho hg hm => by
                have hfar : ∀ (a : Addr) (u : Value), a.block < w5.heap.size → some a.block ≠ ((.slice Ae ne ce) : Value).ownBlock → w5.cell? a = some u → w6.cell? a = some u := fun a u h1 h2 h3 => (hg.cell_far a h1 h2).trans h3
                have hlo : ∀ q, ((.slice Ae ne ce) : Value).ownBlock = some q → N + 2 ≤ q := fun q e => (hb.own.lt q e).1
                have hlt := he.lt
                have hsz := he.size
                obtain ⟨g1, g2, g3⟩ := he.grow hb (w9 := w6) (v1 := v6) (ys := shB cut sh) (by rw [List.length_append, shB_len, u8s_append]; exact ho) hg hm
                have hseg : segS m (50 * (i / 50)) i ++ shB cut sh = segS m (50 * (i / 50)) (i + 1) := by rw [segS_step m (by omega), HRow.out]
                rw [hseg] at g3
                have hn0 : w2.heap.size ≠ N + 1 := by have := HE.out.1.size; omega
                have hS6 : (w6.cell? ⟨w.heap.size, 2, none⟩ = some (.slice (some ⟨bq, oq, none⟩) m.Cuts.length ca) ∧ w6.cell? ⟨bq, oq + i, none⟩ = some (.int .i64 cut) ∧ w6.cell? ⟨w2.heap.size, 0, none⟩ = some (.int .i64 sh.Size) ∧ w6.cell? ⟨w2.heap.size, 1, none⟩ = some (.int .u32 sh.Sum.toNat) ∧ w6.cell? ⟨w2.heap.size, 2, none⟩ = some (.int .i64 sh.Arcs)) := ⟨hfar _ _ (by show w.heap.size < _; omega) (fun e => by have := hlo _ e.symm; simp only at this; omega) hS.1, hfar _ _ (by show bq < _; omega) (fun e => by have := hlo _ e.symm; simp only at this; omega) hS.2.1, hfar _ _ hz (fun e => HSb3.out _ e.symm rfl) hS.2.2.1, hfar _ _ hz (fun e => HSb3.out _ e.symm rfl) hS.2.2.2.1, hfar _ _ hz (fun e => HSb3.out _ e.symm rfl) hS.2.2.2.2⟩
                refine ⟨hS6, ⟨set_far (by show N + 1 ≠ w.heap.size; omega) hS6.1, set_far (by show N + 1 ≠ bq; omega) hS6.2.1, set_far (Ne.symm hn0) hS6.2.2.1, set_far (Ne.symm hn0) hS6.2.2.2.1, set_far (Ne.symm hn0) hS6.2.2.2.2⟩, g1, ?_, ?_⟩
                · rw [Nat.add_sub_cancel]; exact g2
                · rw [Nat.add_sub_cancel]; exact g3⟩
              have hseglen : (segS m (50 * (i / 50)) i).length ≤ 1000 := by rw [segS_len]; omega
              have HSl := Aside.mk hseglen
              have HFl : Aside (fours [cut, sh.Size, (sh.Sum.toNat : Int), sh.Arcs] = shB cut sh) := ⟨rfl⟩
              have HFn : Aside ((shB cut sh).length = 16) := ⟨shB_len _ _⟩
              obtain ⟨ii, hi2, hz0, hz1, hz2⟩ := info_parts Tryz.infoByte
              clear bl1 bl2 hSof hlit k2 kq s0 s1 s2 hseglen kbq
              go_upto_region 10 with (fail)
              refine wp_region_noPanic ?_
              refine wp_region_X 16 (fun w' => w'.cell? ⟨w.heap.size, 2, none⟩ = some (.slice (some ⟨bq, oq, none⟩) m.Cuts.length ca) ∧ w'.cell? ⟨bq, oq + i, none⟩ = some (.int .i64 cut) ∧ w'.cell? ⟨w2.heap.size, 0, none⟩ = some (.int .i64 sh.Size) ∧ w'.cell? ⟨w2.heap.size, 1, none⟩ = some (.int .u32 sh.Sum.toNat) ∧ w'.cell? ⟨w2.heap.size, 2, none⟩ = some (.int .i64 sh.Arcs) ∧ w'.cell? ⟨N + 1, 0, none⟩ = some (.slice Ae ne ce)) (by kernel_rfl) ?_
              have hH0 := And.intro hS0.1 (And.intro hS0.2.1 (And.intro hS0.2.2.1 (And.intro hS0.2.2.2.1 (And.intro hS0.2.2.2.2 kb0))))
              have hHA := And.intro hSA.1 (And.intro hSA.2.1 (And.intro hSA.2.2.1 (And.intro hSA.2.2.2.1 (And.intro hSA.2.2.2.2 kbA))))
              have hi1 : (i : Int) < (m.Cuts.length : Int) := by omega
              refine wpAnyX_take (i := 0) (oi := ⟨some 34, .load 44 (.tmp 6), _, _, _, _⟩) (v := (.slice Ae ne ce)) rfl (by kernel_rfl) (by kernel_rfl) (by kernel_rfl) (by kernel_rfl) (fun _ _ _ h => h) (Or.inl ⟨by rfl, ?_⟩) hH0 ?_
              · intro w' hSw
                first | (go_simp; done) | (go_simp; rfl)
              simp only [Act.put, List.setIfInBounds_toArray, List.set_cons_zero, List.set_cons_succ]
              refine wpAnyX_take (i := 1) (oi := ⟨some 35, .fieldAddr 33 (.tmp 1) 2, _, _, _, _⟩) (v := .pointer (some ⟨w.heap.size, 2, none⟩)) rfl (by kernel_rfl) (by kernel_rfl) (by kernel_rfl) (by kernel_rfl) (fun _ _ _ h => h) (Or.inl ⟨by rfl, ?_⟩) hH0 ?_
              · intro w' hSw
                first | (go_simp; done) | (go_simp; rfl)
              simp only [Act.put, List.setIfInBounds_toArray, List.set_cons_zero, List.set_cons_succ]
              refine wpAnyX_take (i := 2) (oi := ⟨some 36, .load 30 (.tmp 35), _, _, _, _⟩) (v := .slice (some ⟨bq, oq, none⟩) m.Cuts.length ca) rfl (by kernel_rfl) (by kernel_rfl) (by kernel_rfl) (by kernel_rfl) (fun _ _ _ h => h) (Or.inl ⟨by rfl, ?_⟩) hH0 ?_
              · intro w' hSw
                first | (go_simp; done) | (go_simp; rfl)
              simp only [Act.put, List.setIfInBounds_toArray, List.set_cons_zero, List.set_cons_succ]
              refine wpAnyX_take (i := 3) (oi := ⟨some 37, .move (.tmp 7), _, _, _, _⟩) (v := .int .i64 i) rfl (by kernel_rfl) (by kernel_rfl) (by kernel_rfl) (by kernel_rfl) (fun _ _ _ h => h) (Or.inl ⟨by rfl, ?_⟩) hH0 ?_
              · intro w' hSw
                first | (go_simp; done) | (go_simp; rfl)
              simp only [Act.put, List.setIfInBounds_toArray, List.set_cons_zero, List.set_cons_succ]
              refine wpAnyX_take (i := 4) (oi := ⟨some 38, .indexAddr 30 (.tmp 36) (.tmp 37), _, _, _, _⟩) (v := .pointer (some ⟨bq, oq + i, none⟩)) rfl (by kernel_rfl) (by kernel_rfl) (by kernel_rfl) (by kernel_rfl) (fun _ _ _ h => h) (Or.inl ⟨by rfl, ?_⟩) hH0 ?_
              · intro w' hSw
                first | (go_simp; done) | (go_simp; rfl)
              simp only [Act.put, List.setIfInBounds_toArray, List.set_cons_zero, List.set_cons_succ]
              refine wpAnyX_take (i := 5) (oi := ⟨some 39, .load 3 (.tmp 38), _, _, _, _⟩) (v := .int .i64 cut) rfl (by kernel_rfl) (by kernel_rfl) (by kernel_rfl) (by kernel_rfl) (fun _ _ _ h => h) (Or.inl ⟨by rfl, ?_⟩) hH0 ?_
              · intro w' hSw
                first | (go_simp; done) | (go_simp; rfl)
              simp only [Act.put, List.setIfInBounds_toArray, List.set_cons_zero, List.set_cons_succ]
              refine wpAnyX_take (i := 6) (oi := ⟨some 40, .fieldAddr 54 (.tmp 8) 0, _, _, _, _⟩) (v := .pointer (some ⟨w2.heap.size, 0, none⟩)) rfl (by kernel_rfl) (by kernel_rfl) (by kernel_rfl) (by kernel_rfl) (fun _ _ _ h => h) (Or.inl ⟨by rfl, ?_⟩) hH0 ?_
              · intro w' hSw
                first | (go_simp; done) | (go_simp; rfl)
              simp only [Act.put, List.setIfInBounds_toArray, List.set_cons_zero, List.set_cons_succ]
              refine wpAnyX_take (i := 7) (oi := ⟨some 41, .load 3 (.tmp 40), _, _, _, _⟩) (v := .int .i64 sh.Size) rfl (by kernel_rfl) (by kernel_rfl) (by kernel_rfl) (by kernel_rfl) (fun _ _ _ h => h) (Or.inl ⟨by rfl, ?_⟩) hH0 ?_
              · intro w' hSw
                first | (go_simp; done) | (go_simp; rfl)
              simp only [Act.put, List.setIfInBounds_toArray, List.set_cons_zero, List.set_cons_succ]
              refine wpAnyX_take (i := 8) (oi := ⟨some 42, .fieldAddr 54 (.tmp 8) 1, _, _, _, _⟩) (v := .pointer (some ⟨w2.heap.size, 1, none⟩)) rfl (by kernel_rfl) (by kernel_rfl) (by kernel_rfl) (by kernel_rfl) (fun _ _ _ h => h) (Or.inl ⟨by rfl, ?_⟩) hH0 ?_
              · intro w' hSw
                first | (go_simp; done) | (go_simp; rfl)
              simp only [Act.put, List.setIfInBounds_toArray, List.set_cons_zero, List.set_cons_succ]
              refine wpAnyX_take (i := 9) (oi := ⟨some 43, .load 52 (.tmp 42), _, _, _, _⟩) (v := .int .u32 sh.Sum.toNat) rfl (by kernel_rfl) (by kernel_rfl) (by kernel_rfl) (by kernel_rfl) (fun _ _ _ h => h) (Or.inl ⟨by rfl, ?_⟩) hH0 ?_
              · intro w' hSw
                first | (go_simp; done) | (go_simp; rfl)
              simp only [Act.put, List.setIfInBounds_toArray, List.set_cons_zero, List.set_cons_succ]
              refine wpAnyX_take (i := 10) (oi := ⟨some 44, .convert 52 3 (.tmp 43), _, _, _, _⟩) (v := .int .i64 (sh.Sum.toNat : Int)) rfl (by kernel_rfl) (by kernel_rfl) (by kernel_rfl) (by kernel_rfl) (fun _ _ _ h => h) (Or.inl ⟨by rfl, ?_⟩) hH0 ?_
              · intro w' hSw
                first | (go_simp; done) | (go_simp; rfl)
              simp only [Act.put, List.setIfInBounds_toArray, List.set_cons_zero, List.set_cons_succ]
              refine wpAnyX_take (i := 11) (oi := ⟨some 45, .fieldAddr 54 (.tmp 8) 2, _, _, _, _⟩) (v := .pointer (some ⟨w2.heap.size, 2, none⟩)) rfl (by kernel_rfl) (by kernel_rfl) (by kernel_rfl) (by kernel_rfl) (fun _ _ _ h => h) (Or.inl ⟨by rfl, ?_⟩) hH0 ?_
              · intro w' hSw
                first | (go_simp; done) | (go_simp; rfl)
              simp only [Act.put, List.setIfInBounds_toArray, List.set_cons_zero, List.set_cons_succ]
              refine wpAnyX_take (i := 12) (oi := ⟨some 46, .load 3 (.tmp 45), _, _, _, _⟩) (v := .int .i64 sh.Arcs) rfl (by kernel_rfl) (by kernel_rfl) (by kernel_rfl) (by kernel_rfl) (fun _ _ _ h => h) (Or.inl ⟨by rfl, ?_⟩) hH0 ?_
              · intro w' hSw
                first | (go_simp; done) | (go_simp; rfl)
              simp only [Act.put, List.setIfInBounds_toArray, List.set_cons_zero, List.set_cons_succ]
              refine wpAnyX_one (i := 13) (oi := ⟨some 47, .buildSlice 30 4 #[(0, .tmp 39), (1, .tmp 41), (2, .tmp 44), (3, .tmp 46)], _, _, _, _⟩) rfl (by kernel_rfl) (fun K hK => ?_)
              go_simp
              refine hK _ _ ⟨.inr hHA, ?_⟩
              clear hK K
              try simp only [Act.put, List.setIfInBounds_toArray, List.set_cons_zero, List.set_cons_succ]
              refine wpAnyX_one (i := 14) (oi := ⟨some 48, .call { callee := .value (.func 50), args := #[.tmp 47], argTypes := #[30] }, _, _, _, _⟩) rfl (by kernel_rfl) (fun K hK => ?_)
              go_simp
              refine HC.out.mono ?_
              rw [HFl.out]
              rintro e w5 ⟨v4, rfl, ho4, B5⟩
              rw [HFn.out] at ho4
              obtain ⟨hS5, kb5, he5, hb5, hz5⟩ := HN5.out w5 B5
              obtain ⟨g4, cap4, rfl, hg4, hc4, hm4⟩ := row_sliceE ho4 (by decide)
              have hH5 := And.intro hS5.1 (And.intro hS5.2.1 (And.intro hS5.2.2.1 (And.intro hS5.2.2.2.1 (And.intro hS5.2.2.2.2 kb5))))
              refine hK _ _ ⟨.inr hH5, ?_⟩
              clear hK K
              try simp only [Act.put, List.setIfInBounds_toArray, List.set_cons_zero, List.set_cons_succ]
              refine wpAnyX_one (i := 15) (oi := ⟨some 49, .call { callee := .builtin .append, args := #[.tmp 34, .tmp 48], argTypes := #[44, 44] }, _, _, _, _⟩) rfl (by kernel_rfl) (fun K hK => ?_)
              refine step_append_lies (P := Tryz.prog) (w := w5) (by rfl) _ _ _ (by rfl) (N + 2) 5 ii _ 1 1 Tryz.underlying44 hi2 hz0 hz1 hz2 rfl (by decide) (.slice Ae ne ce) (segS m (50 * (i / 50)) i).length (u8s (segS m (50 * (i / 50)) i)) (by rfl) hb5.own ⟨_, 0, none⟩ 16 _ (u8s (shB cut sh)) (by rfl) (by rw [u8s_length, HFn.out]) (fun j u hj => ho4.cells rfl j u hj) (fun u hu => by unfold u8s at hu; obtain ⟨b, _, rfl⟩ := List.mem_map.1 hu; rfl) (by decide) (by simp only [maxLen]; have := HSl.out; omega) (by have := HSl.out; omega) he5.size _ rfl ?_
              intro g cap w6 hown hg hat hlt6
              obtain ⟨hS6, hS7, h6a, h6b, h6c⟩ := HN6.out w5 w6 _ hS5 he5 hb5 hz5 hown hg (by rcases hat with e | e; exact .inl (by rw [e]; rfl); exact .inr ⟨g, rfl, by omega⟩)
              obtain ⟨q1, q2, q3⟩ := store_at h6a 0 (show 0 < 1 by decide)
              simp only [List.getElem_toArray, List.getElem_cons_zero] at q1
              have hH6 := And.intro hS6.1 (And.intro hS6.2.1 (And.intro hS6.2.2.1 (And.intro hS6.2.2.2.1 (And.intro hS6.2.2.2.2 q1))))
              have HE6 := Aside.mk h6b
              have HB6 := Aside.mk h6c
              refine hK _ _ ⟨.inr hH6, ?_⟩
              clear hK K hown hg hat hlt6 h6a h6b h6c hS7
              try simp only [Act.put, List.setIfInBounds_toArray, List.set_cons_zero, List.set_cons_succ]
              refine wpAnyX_one (i := 16) (oi := ⟨none, .store 44 (.tmp 6) (.tmp 49), _, _, _, _⟩) rfl (by kernel_rfl) (fun K hK => ?_)
              go_simp
              refine hK _ _ ⟨.inl rfl, ?_⟩
              clear hK K
              try simp only [Act.put, List.setIfInBounds_toArray, List.set_cons_zero, List.set_cons_succ]
              refine wpAnyX_done (by kernel_rfl) (NoPanic.normal ?_) _
              go_wp2
              go_roundg (m.Shards.length - (i + 1))
              case measure => exact HM.out.1
              case rel => exact ⟨i + 1, _, _, _, ⟨HM.out.2⟩, by go_num, ⟨HE6.out, HB6.out⟩⟩
        · have hie : i = m.Shards.length := by have := HI.out; omega
          subst hie
          obtain ⟨Ad, nd, cd, hdv⟩ := own_slice HE.out.1.bl.own
          subst hdv
          obtain ⟨Ae, ce, hbv⟩ : ∃ Ae ce, bv = .slice Ae (segS m (50 * ((m.Shards.length - 1) / 50)) m.Shards.length).length ce := by
            rcases HE.out.2.own.2 with ⟨rfl, h⟩ | ⟨g, cap, cur, rfl, _⟩
            · rw [h]; exact ⟨_, _, rfl⟩
            · exact ⟨_, _, rfl⟩
          subst hbv
          obtain ⟨cdN, fdN, -⟩ := store_at HE.out.1.db 0 (show 0 < 1 by decide)
          obtain ⟨cbN, fbN, -⟩ := store_at HE.out.1.bb 0 (show 0 < 1 by decide)
          simp only [List.getElem_toArray, List.getElem_cons_zero] at cdN cbN
          have hseg := segS_len m (50 * ((m.Shards.length - 1) / 50)) m.Shards.length
          have hns := HK.out.ns
          obtain ⟨sl, hsl⟩ : ∃ sl, sl = (segS m (50 * ((m.Shards.length - 1) / 50)) m.Shards.length).length := ⟨_, rfl⟩
          have HBo := Aside.mk HE.out.2
          rw [← hsl] at cbN hseg
          have HSl := Aside.mk hsl
          rw [← hsl] at HBo HE
          obtain ⟨w2, hw2⟩ : ∃ w2, w2 = wr := ⟨_, rfl⟩
          subst hw2
          have hwhen : (0 < sl ∧ (List.range ((m.Shards.length - 1) / 50)).map (rowS m) ++ [segS m (50 * ((m.Shards.length - 1) / 50)) m.Shards.length] = dataS m) ∨ (sl = 0 ∧ (List.range ((m.Shards.length - 1) / 50)).map (rowS m) = dataS m) := by
            by_cases h0 : 0 < m.Shards.length
            · refine .inl ⟨by omega, ?_⟩
              have e1 : (m.Shards.length + 49) / 50 = (m.Shards.length - 1) / 50 + 1 := by omega
              unfold dataS
              rw [e1, List.range_succ, List.map_append]
              simp only [List.map_cons, List.map_nil]
              rw [show rowS m ((m.Shards.length - 1) / 50) = segS m (50 * ((m.Shards.length - 1) / 50)) m.Shards.length by unfold rowS; rw [Nat.min_eq_right (by omega)]]
            · refine .inr ⟨by omega, ?_⟩
              have e1 : (m.Shards.length + 49) / 50 = 0 := by omega
              have e2 : (m.Shards.length - 1) / 50 = 0 := by omega
              unfold dataS
              rw [e1, e2]
          have HW := Aside.mk hwhen
          clear hwhen hseg hsl hi
          have hi : ¬ (m.Shards.length < m.Shards.length) := Nat.lt_irrefl _
          go_upto_if 53 with (fail)
          obtain ⟨lb, hlb⟩ : ∃ lb, decide (0 < sl) = lb := ⟨_, rfl⟩
          have HLb : Aside (lb = true → 0 < sl) := ⟨fun h => by rw [← hlb] at h; simpa using h⟩
          have HLb0 : Aside (lb = false → sl = 0) := ⟨fun h => by rw [← hlb] at h; simpa using h⟩
          simp only [hlb]
          clear hlb
          go_cut [] from 53 to 57 (fun wx => ∃ (dv : Value) (vs : List Value) (bv : Value), Aside (EI w #[.int .i64 m.Gen, .int .i64 m.N, .slice Aa m.Cuts.length ca, .slice Ab m.Shards.length cb, .slice Ac m.Degrees.length cc] N wx dv vs bv (dataS m)))
          case first =>
            have HRl : Aside (((List.range ((m.Shards.length - 1) / 50)).map (rowS m)).length ≤ 1000) := ⟨by rw [List.length_map, List.length_range]; omega⟩
            have HNs := Aside.mk HE.out.1.size
            cases lb with
            | true =>
              have HFl := Aside.mk (fun (w9 : World) (dv1 : Value) => HE.out.1.flush (w9 := w9) (dv1 := dv1) HBo.out)
              have HOd := Aside.mk HE.out.1.bl.own
              have H2e : Aside ((List.range ((m.Shards.length - 1) / 50)).map (rowS m) ++ [segS m (50 * ((m.Shards.length - 1) / 50)) m.Shards.length] = dataS m) := ⟨by
                rcases HW.out with ⟨_, h⟩ | ⟨h, _⟩
                · exact h
                · have := HLb.out rfl; omega⟩
              generalize ((List.range ((m.Shards.length - 1) / 50)).map (rowS m)).length = rl at *
              go_wp2_with (at_builtin; go_must (refine app_one (N + 2) rfl _ _ 45 44 (.slice none 0 0) 1 24 rfl Tryz.underlying45 Tryz.infoBytes rfl (by decide) (by decide) (.slice Ad nd cd) rl vs [.slice Ae sl ce] rfl rfl rfl (by simp [Value.oneCell']) HOd.out HNs.out (by have := HRl.out; omega) ?_; intro v1 w9 hown hg9 hat; obtain ⟨A9, n9, c9, rfl⟩ := own_slice hown; obtain ⟨h9a, h9b, h9c⟩ := HFl.out w9 _ hown hg9 hat; obtain ⟨q1, q2, q3⟩ := store_at h9a 0 (show 0 < 1 by decide); simp only [List.getElem_toArray, List.getElem_cons_zero] at q1; have HE9 := Aside.mk h9c; clear hown hg9 hat h9a h9b h9c))
              go_meet
              case rel => exact ⟨_, _, _, ⟨by rw [← H2e.out]; exact HE9.out⟩⟩
            | false =>
              have H2e : Aside ((List.range ((m.Shards.length - 1) / 50)).map (rowS m) = dataS m) := ⟨by
                rcases HW.out with ⟨h, _⟩ | ⟨_, h⟩
                · have := HLb0.out rfl; omega
                · exact h⟩
              go_wp2
              go_meet
              case rel => exact ⟨_, _, _, ⟨by rw [← H2e.out]; exact HE.out.1⟩⟩
          case rest =>
            obtain ⟨dv, vs, bv, HE⟩ := hcut
            clear HW HBo HSl HI HLb HLb0
            obtain ⟨k0, k1, k2, k3, k4⟩ := five HE.out.mb
            obtain ⟨W1, hW1⟩ : ∃ W1, W1 = wc := ⟨_, rfl⟩
            subst hW1
            go_wp2_with fail
            refine (chunk_any Ac m.Degrees.length cc _).mono ?_
            rintro e w5 ⟨rfl, rfl⟩
            go_wp2_with fail
            have hba : ∃ b o, 0 < m.Degrees.length → Ac = some ⟨b, o, none⟩ := by
              by_cases h0 : 0 < m.Degrees.length
              · obtain ⟨b, o, e, _⟩ := H3.out.int 0 h0
                exact ⟨b, o, fun _ => e⟩
              · exact ⟨0, 0, fun h => absurd h h0⟩
            obtain ⟨bd, od, hA⟩ := hba
            obtain ⟨B, hBe⟩ : ∃ B, B = W1.heap.size := ⟨_, rfl⟩
            have hBN : N + 2 ≤ B := by rw [hBe]; exact HE.out.size
            have hsz5 : ((W1.alloc (.cells #[.slice Ac m.Degrees.length cc] 30)).alloc (.cells #[.int .i64 200] 3)).heap.size = B + 2 := by simp [hBe]
            have hDb : ((W1.alloc (.cells #[.slice Ac m.Degrees.length cc] 30)).alloc (.cells #[.int .i64 200] 3)).heap[B]? = some (.cells #[.slice Ac m.Degrees.length cc] 30 (0, 0)) := by
              rw [Below.heap_alloc _ _ _ (by simp only [World.size_alloc]; omega), hBe]
              exact heap_alloc_new _ _
            have hDn : ((W1.alloc (.cells #[.slice Ac m.Degrees.length cc] 30)).alloc (.cells #[.int .i64 200] 3)).heap[B + 1]? = some (.cells #[.int .i64 200] 3 (0, 0)) := by
              rw [show B + 1 = (W1.alloc (.cells #[.slice Ac m.Degrees.length cc] 30)).heap.size by simp [hBe]]
              exact heap_alloc_new _ _
            have hB5 : Below W1.heap.size W1 ((W1.alloc (.cells #[.slice Ac m.Degrees.length cc] 30)).alloc (.cells #[.int .i64 200] 3)) := ((Below.refl _ W1).alloc (Nat.le_refl _) _).alloc (by simp) _
            have hBs := (store_at hDb 0 (show 0 < 1 by decide)).1
            have hBn := (store_at hDn 0 (show 0 < 1 by decide)).1
            simp only [List.getElem_toArray, List.getElem_cons_zero] at hBs hBn
            rw [← hBe] at hB5 ⊢
            have HI0 : Aside (RI w #[.int .i64 m.Gen, .int .i64 m.N, .slice Aa m.Cuts.length ca, .slice Ab m.Shards.length cb, .slice Ac m.Degrees.length cc] N B (dataS m) m.Degrees (.slice Ac m.Degrees.length cc) 0 ((W1.alloc (.cells #[.slice Ac m.Degrees.length cc] 30)).alloc (.cells #[.int .i64 200] 3))) := ⟨⟨dv, vs, bv, by simpa using HE.out.below (by rw [← hBe]; exact hB5), hDb, hDn⟩⟩
            generalize (W1.alloc (.cells #[.slice Ac m.Degrees.length cc] 30)).alloc (.cells #[.int .i64 200] 3) = W5 at *
            clear k0 k1 k2 k3 k4 HE hB5 hDb hDn hBe
            refine (wpIn_wide (n := 6)).1 ?_
            have hl3 : m.Degrees.length ≤ 16777216 := HL.out.2.2
            have hcc : m.Degrees.length ≤ cc := by obtain ⟨_, _, e, h, _⟩ := H3.out.slice; cases e; exact h
            refine range_known_d (F := Fence.wide) (n := 6) rfl (by omega) (gf := 79) (lb := #[.pointer (some ⟨B, 0, none⟩), .pointer (some ⟨B + 1, 0, none⟩)]) rfl trivial (enters_of Tryz.func79 (by kernel_rfl) rfl) (encs := fun x : Nat => #[chunkV bd od m.Degrees.length x])
              (Kp := Stay fun q => q = B ∨ q = B + 1) (List.range (cnt m.Degrees.length)) (fun l' J W hb hJd hY h0 => chunk_known (n := 6 - 1) trivial rfl (by omega) (L := fun q => q = B ∨ q = B + 1) (.inl rfl) (.inr rfl) (fun h => hA h) hl3 hcc hBs hBn l' J W hb hJd hY h0)
              (fun h k q hq hlt => ⟨((k q hq (h q hq hlt).2).1).trans (h q hq hlt).1, (k q hq (h q hq hlt).2).2⟩)
              (fun W l' o o' hl _ _ q hq hlt => ⟨World.putObj_heap_other (by rcases hq with h | h <;> omega), by simpa using hlt⟩) (fun _ => rfl)
              (RI w #[.int .i64 m.Gen, .int .i64 m.N, .slice Aa m.Cuts.length ca, .slice Ab m.Shards.length cb, .slice Ac m.Degrees.length cc] N B (dataS m) m.Degrees (.slice Ac m.Degrees.length cc)) (by rw [hsz5]; exact RI.own (by omega)) HI0.out ?round ?done
            case round =>
              clear HI0 hBs hBn
              intro l' k x W K hx hK
              gi_wp2
              rintro W2 ⟨dv, vs, bv, hei, hB, hB1⟩ hsz2
              have hkx : k < cnt m.Degrees.length ∧ x = k := by
                obtain ⟨h1, h2⟩ := List.getElem?_eq_some_iff.1 hx
                simp at h1 h2
                exact ⟨h1, h2.symm⟩
              obtain ⟨hk, rfl⟩ := hkx
              have h200 : 200 * x < m.Degrees.length := by unfold cnt at hk; omega
              obtain rfl := hA (by omega)
              have hql := chD_len m.Degrees x
              have hsub : ∀ W', Below w.heap.size w W' → Sl kint W' ok (.slice (some ⟨bd, od + 200 * x, none⟩) (chD m.Degrees x).length (chD m.Degrees x).length) (chD m.Degrees x) := fun W' hb => by
                have h := (H3.out.below hb).part (i := 200 * x) (m := min 200 (m.Degrees.length - 200 * x)) (by omega)
                have e1 : (m.Degrees.drop (200 * x)).take (min 200 (m.Degrees.length - 200 * x)) = chD m.Degrees x := by
                  unfold chD
                  rw [List.take_eq_take_iff]
                  simp
                rw [e1, ← hql] at h
                simpa [kint, flat] using h
              have hcv : chunkV bd od m.Degrees.length x = .slice (some ⟨bd, od + 200 * x, none⟩) (chD m.Degrees x).length (chD m.Degrees x).length := by rw [hql]; rfl
              rw [hcv]
              have HRg : Aside (∀ d ∈ chD m.Degrees x, 0 ≤ d ∧ d < 9223372036854775808) := ⟨fun d hd => by
                have := HK.out.deg d (List.mem_of_mem_drop (List.mem_of_mem_take hd))
                have := HK.out.n
                omega⟩
              have hq200 : (chD m.Degrees x).length ≤ 200 := by omega
              have HNext := Aside.mk (fun wr w9 dv1 v => RI.next (wr := wr) (w9 := w9) (dv1 := dv1) (bv := v) (sl := .slice (some ⟨bd, od, none⟩) m.Degrees.length cc) hei hB hB1 hBN)
              have HEI := Aside.mk hei
              have HXB : Aside (x ≤ 16777216) := ⟨by omega⟩
              have cbN := (store_at hei.bb 0 (show 0 < 1 by decide)).1
              have fbN := (store_at hei.bb 0 (show 0 < 1 by decide)).2.1
              simp only [List.getElem_toArray, List.getElem_cons_zero] at cbN
              have HSub := Aside.mk hsub
              have HSz := Aside.mk hei.size
              clear hei hB hB1 hql hcv hx hk h200 hA hsub hsz2 hl3 hcc
              obtain ⟨ch, hche⟩ : ∃ ch, ch = chD m.Degrees x := ⟨_, rfl⟩
              rw [← hche] at HSub HRg hq200 ⊢
              have HCH := Aside.mk hche
              clear hche
              have HI0 : Aside (EI w #[.int .i64 m.Gen, .int .i64 m.N, .slice Aa m.Cuts.length ca, .slice Ab m.Shards.length cb, .slice (some ⟨bd, od, none⟩) m.Degrees.length cc] N (W2.setCell ⟨N + 1, 0, none⟩ (.slice none 0 0)) dv vs (.slice none 0 0) (dataS m ++ (List.range x).map fun j => rowD (chD m.Degrees j)) ∧ Since N W2 (W2.setCell ⟨N + 1, 0, none⟩ (.slice none 0 0)) ∧ (W2.setCell ⟨N + 1, 0, none⟩ (.slice none 0 0)).ownsRow W2.heap.size 5 1 (.slice none 0 0) (rowD (ch.take 0)).length (u8s (rowD (ch.take 0)))) :=
                ⟨HEI.out.setB _, Since.setB ⟨Nat.le_refl _, fun _ _ _ => rfl⟩ _, World.ownsRow_nil _ _ _ _⟩
              gi_wp2
              clear cbN fbN
              generalize W2.setCell ⟨N + 1, 0, none⟩ (.slice none 0 0) = W3 at *
              gi_loopg [64] ch.length (fun kq v64 wr => ∃ (i : Nat) (bv : Value), Aside (i + kq = ch.length) ∧ v64 = .int .i64 i ∧ Aside (EI w #[.int .i64 m.Gen, .int .i64 m.N, .slice Aa m.Cuts.length ca, .slice Ab m.Shards.length cb, .slice (some ⟨bd, od, none⟩) m.Degrees.length cc] N wr dv vs bv (dataS m ++ (List.range x).map fun j => rowD (chD m.Degrees j)) ∧ Since N W2 wr ∧ wr.ownsRow W2.heap.size 5 1 bv (rowD (ch.take i)).length (u8s (rowD (ch.take i)))))
              case atStart => exact ⟨0, _, ⟨by omega⟩, rfl, HI0⟩
              case round =>
                clear HI0
                obtain ⟨i, bv, HI, rfl, HE⟩ := hrel
                have cbN := (store_at HE.out.1.bb 0 (show 0 < 1 by decide)).1
                simp only [List.getElem_toArray, List.getElem_cons_zero] at cbN
                by_cases hi : i < ch.length
                · obtain ⟨b', o', e, k0⟩ := (HSub.out wr HE.out.1.bel).int i hi
                  cases e
                  have HIN : Aside (ch.length - (i + 1) < gk ∧ i + 1 + (ch.length - (i + 1)) = ch.length) := ⟨by have := HI.out; omega⟩
                  have HT := Aside.mk (rowD_take hi)
                  have hx := HRg.out ch[i] (List.getElem_mem hi)
                  have hlen : (rowD (ch.take i)).length ≤ 2000 := by
                    have h := rowD_le (c := ch.take i) fun d hd => HRg.out d (List.mem_of_mem_take hd)
                    rw [List.length_take] at h
                    omega
                  generalize ch[i] = d at *
                  obtain ⟨y, rfl⟩ := Int.eq_ofNat_of_zero_le hx.1
                  have hy : y < 9223372036854775808 := by have := hx.2; omega
                  obtain ⟨wq, hwq⟩ : ∃ wq, wq = wr := ⟨_, rfl⟩
                  subst hwq
                  obtain ⟨Ae, ne, ce, rfl⟩ := own_slice HE.out.2.2
                  have HCon := Aside.mk (vPut_any y hy (own_u8s HE.out.2.2).sl (by omega))
                  have HYI : Aside (rowD (ch.take (i + 1)) = rowD (ch.take i) ++ vform y) := ⟨by rw [HT.out]; simp [vI]⟩
                  have HN9 : Aside (∀ w9 v9, w9.ownsRow wq.heap.size 5 1 v9 (rowD (ch.take i) ++ vform y).length (u8s (rowD (ch.take i) ++ vform y)) → Below wq.heap.size wq w9 →
                      w9.heap[N + 1]? = some (.cells #[.slice Ae ne ce] 44 (0, 0)) ∧ EI w #[.int .i64 m.Gen, .int .i64 m.N, .slice Aa m.Cuts.length ca, .slice Ab m.Shards.length cb, .slice (some ⟨bd, od, none⟩) m.Degrees.length cc] N (w9.setCell ⟨N + 1, 0, none⟩ v9) dv vs v9 (dataS m ++ (List.range x).map fun j => rowD (chD m.Degrees j)) ∧ Since N W2 (w9.setCell ⟨N + 1, 0, none⟩ v9) ∧ (w9.setCell ⟨N + 1, 0, none⟩ v9).ownsRow W2.heap.size 5 1 v9 (rowD (ch.take (i + 1))).length (u8s (rowD (ch.take (i + 1))))) := ⟨fun w9 v9 h9 b9 => by
                    have e9 := HE.out.1.below b9
                    refine ⟨e9.bb, e9.setB _, (HE.out.2.1.below b9).setB _, ?_⟩
                    rw [HYI.out]
                    have hl := own_low h9 HE.out.2.1.size
                    exact ownsRow_move hl fun q e => setCell_far (by have := (hl.lt q e).1; have := HSz.out; omega)⟩
                  clear hx hlen HT HYI
                  gi_wp2_with fail
                  refine ⟨trivial, (CallsIn.inRound l' (callsIn_wide.2 HCon.out)).mono ?_⟩
                  clear HCon k0
                  rintro e w9 ⟨v9, rfl, ho9, hb9⟩
                  obtain ⟨A9, m9, c9, rfl⟩ := own_slice ho9
                  obtain ⟨g1, g2, g3, g4⟩ := HN9.out w9 _ ho9 hb9
                  have cb9 := (store_at g1 0 (show 0 < 1 by decide)).1
                  have fb9 := (store_at g1 0 (show 0 < 1 by decide)).2.1
                  simp only [List.getElem_toArray, List.getElem_cons_zero] at cb9
                  have HG := Aside.mk (And.intro g2 (And.intro g3 g4))
                  clear ho9 hb9 HN9 HE g1 g2 g3 g4 cbN
                  gi_wp2_with fail
                  gi_roundg (ch.length - (i + 1))
                  case measure => exact HIN.out.1
                  case rel => exact ⟨i + 1, _, ⟨HIN.out.2⟩, by go_num, HG⟩
                · have hit : ch.take i = ch := List.take_of_length_le (by omega)
                  rw [hit] at HE
                  obtain ⟨A1, m1, c1, rfl⟩ := own_slice HE.out.2.2
                  replace hi : ch.length ≤ i := by omega
                  have cdb := (store_at HE.out.1.db 0 (show 0 < 1 by decide)).1
                  simp only [List.getElem_toArray, List.getElem_cons_zero] at cdb
                  have HOwr := Aside.mk HE.out.1.bl.own
                  have HWr := Aside.mk HE.out.1.size
                  have HNx : Aside (∀ (w9 : World) (dv1 : Value), w9.ownsRow (N + 2) 44 1 dv1 ((dataS m ++ (List.range x).map fun j => rowD (chD m.Degrees j)).length + 1) (vs ++ [.slice A1 m1 c1]) → wr.grownBy w9 dv.ownBlock → (dv1.ownBlock = dv.ownBlock ∨ dv1.ownBlock = some (wr.heap.size + 1)) →
                      w9.heap[N]? = some (.cells #[dv] 45 (0, 0)) ∧ RI w #[.int .i64 m.Gen, .int .i64 m.N, .slice Aa m.Cuts.length ca, .slice Ab m.Shards.length cb, .slice (some ⟨bd, od, none⟩) m.Degrees.length cc] N B (dataS m) m.Degrees (.slice (some ⟨bd, od, none⟩) m.Degrees.length cc) (x + 1) (w9.setCell ⟨N, 0, none⟩ dv1) ∧ KeepsFrom (B + 2) W2 (w9.setCell ⟨N, 0, none⟩ dv1) ∧ Stay (fun q => q = B ∨ q = B + 1) W2 (w9.setCell ⟨N, 0, none⟩ dv1)) :=
                    ⟨fun w9 dv1 h1 h2 h3 => HNext.out wr w9 dv1 _ HE.out.1 HE.out.2.1 (by rw [← HCH.out]; exact HE.out.2.2) h1 h2 h3⟩
                  have HLen : Aside ((dataS m ++ (List.range x).map fun j => rowD (chD m.Degrees j)).length ≤ 33554432) := ⟨by
                    have := HK.out.ns
                    have := HXB.out
                    unfold dataS
                    simp only [List.length_append, List.length_map, List.length_range]
                    omega⟩
                  generalize (dataS m ++ (List.range x).map fun j => rowD (chD m.Degrees j)).length = cntx at *
                  clear HE hit HNext HSub HRg HCH HEI
                  gi_wp2_with (gi_at_builtin; go_must (refine app_one_in (N + 2) rfl _ _ 45 44 (.slice none 0 0) 1 24 rfl Tryz.underlying45 Tryz.infoBytes rfl (by decide) (by decide) dv cntx vs [.slice A1 m1 c1] rfl rfl rfl (by simp [Value.oneCell']) HOwr.out HWr.out (by have := HLen.out; omega) ?_; intro v1 w9 hown hg9 hat; obtain ⟨A9, m9, c9, rfl⟩ := own_slice hown; obtain ⟨hd9, hi9, hk9, hs9⟩ := HNx.out w9 _ hown hg9 hat; have cd9 : w9.cell? ⟨N, 0, none⟩ = some dv := cell_blk hd9 rfl; have fd9 : w9.frozen? ⟨N, 0, none⟩ = false := frozen_of_row w9 N 0 _ _ hd9; have HI9 := Aside.mk hi9; have HK9 := Aside.mk hk9; have HS9 := Aside.mk hs9; clear hown hg9 hat hd9 hi9 hk9 hs9))
                  exact ⟨by rw [hsz5]; exact HK9.out, HS9.out, HI9.out⟩
            case done =>
              clear HI0 hBs hBn hA
              rintro D W9 hD ⟨dv, vs, bv, hei, -, -⟩ hKd
              rw [List.length_range] at hei
              have HEI : Aside (EI w #[.int .i64 m.Gen, .int .i64 m.N, .slice Aa m.Cuts.length ca, .slice Ab m.Shards.length cb, .slice Ac m.Degrees.length cc] N W9 dv vs bv (dataM m)) := ⟨hei⟩
              clear hei
              obtain ⟨k0, k1, k2, k3, k4⟩ := five HEI.out.mb
              have cdb := (store_at HEI.out.db 0 (show 0 < 1 by decide)).1
              simp only [List.getElem_toArray, List.getElem_cons_zero] at cdb
              obtain ⟨A2, m2, c2, rfl⟩ := own_slice HEI.out.bl.own
              have bl1 : Below W9.heap.size W9 W9.drew := bdrew1 (Below.refl _ _)
              have bl2 := bl1.alloc (Nat.le_refl _) (.cells #[.int .i64 m.Gen, .int .i64 m.N, .int .i64 (m.Shards.length : Int)] 3)
              have hlit : Sl kint (W9.drew.alloc (.cells #[.int .i64 m.Gen, .int .i64 m.N, .int .i64 (m.Shards.length : Int)] 3)) (W9.drew.heap.size ≤ ·) (.slice (some ⟨W9.drew.heap.size, 0, none⟩) 3 3) [m.Gen, m.N, (m.Shards.length : Int)] :=
                (own_ints (World.ownsRow_lit W9.drew #[.int .i64 m.Gen, .int .i64 m.N, .int .i64 (m.Shards.length : Int)] 3 (Nat.le_refl _) (by decide) (by simp))).sl
              have hrg := And.intro HK.out.gen (And.intro HK.out.n HK.out.ns)
              have HC := Aside.mk (mfour_any hlit (by intro z hz; simp at hz; omega) (by simp))
              have HN5 : Aside (∀ w5, Below (W9.drew.alloc (.cells #[.int .i64 m.Gen, .int .i64 m.N, .int .i64 (m.Shards.length : Int)] 3)).heap.size (W9.drew.alloc (.cells #[.int .i64 m.Gen, .int .i64 m.N, .int .i64 (m.Shards.length : Int)] 3)) w5 → w5.cell? ⟨w.heap.size, 0, none⟩ = some (.int .i64 m.Gen) ∧ w5.cell? ⟨w.heap.size, 1, none⟩ = some (.int .i64 m.N) ∧ w5.cell? ⟨w.heap.size, 3, none⟩ = some (.slice Ab m.Shards.length cb) ∧ w5.cell? ⟨N, 0, none⟩ = some (.slice A2 m2 c2)) := ⟨fun w5 h5 => by
                have hb := bthen bl2 bl2.size h5
                exact ⟨bcell hb k0, bcell hb k1, bcell hb k3, bcell hb cdb⟩⟩
              have HDone : Aside (∀ w5 hv, Below (W9.drew.alloc (.cells #[.int .i64 m.Gen, .int .i64 m.N, .int .i64 (m.Shards.length : Int)] 3)).heap.size (W9.drew.alloc (.cells #[.int .i64 m.Gen, .int .i64 m.N, .int .i64 (m.Shards.length : Int)] 3)) w5 → w5.ownsRow (W9.drew.alloc (.cells #[.int .i64 m.Gen, .int .i64 m.N, .int .i64 (m.Shards.length : Int)] 3)).heap.size 5 1 hv (headM m).length (u8s (headM m)) → EncPost w m (.returned (.tuple #[hv, .slice A2 m2 c2, .int .i64 0])) (w5.putObj D (.deferred none)) ∧ w5.heap[D]? = some (.deferred (some []))) := ⟨fun w5 hv h5 ho => enc_yes HEI.out HMb.out.symm (by omega) hKd bl2 h5 ho⟩
              have hH0 := And.intro (bcell bl1 k0) (And.intro (bcell bl1 k1) (And.intro (bcell bl1 k3) (bcell bl1 cdb)))
              have hHA := And.intro (bcell bl2 k0) (And.intro (bcell bl2 k1) (And.intro (bcell bl2 k3) (bcell bl2 cdb)))
              clear hrg hlit bl1 bl2 hKd HEI HK
              go_upto_region 23 with (fail)
              refine wp_region_noPanic ?_
              refine wp_region_X 12 (fun w' => w'.cell? ⟨w.heap.size, 0, none⟩ = some (.int .i64 m.Gen) ∧ w'.cell? ⟨w.heap.size, 1, none⟩ = some (.int .i64 m.N) ∧ w'.cell? ⟨w.heap.size, 3, none⟩ = some (.slice Ab m.Shards.length cb) ∧ w'.cell? ⟨N, 0, none⟩ = some (.slice A2 m2 c2)) (by kernel_rfl) ?_
              refine wpAnyX_take (i := 0) (oi := ⟨some 76, .fieldAddr 33 (.tmp 1) 0, _, _, _, _⟩) (v := .pointer (some ⟨w.heap.size, 0, none⟩)) rfl (by kernel_rfl) (by kernel_rfl) (by kernel_rfl) (by kernel_rfl) (fun _ _ _ h => h) (Or.inl ⟨by rfl, ?_⟩) hH0 ?_
              · intro w' hSw
                first | (go_simp; done) | (go_simp; rfl)
              simp only [Act.put, List.setIfInBounds_toArray, List.set_cons_zero, List.set_cons_succ]
              refine wpAnyX_take (i := 1) (oi := ⟨some 77, .load 3 (.tmp 76), _, _, _, _⟩) (v := .int .i64 m.Gen) rfl (by kernel_rfl) (by kernel_rfl) (by kernel_rfl) (by kernel_rfl) (fun _ _ _ h => h) (Or.inl ⟨by rfl, ?_⟩) hH0 ?_
              · intro w' hSw
                first | (go_simp; done) | (go_simp; rfl)
              simp only [Act.put, List.setIfInBounds_toArray, List.set_cons_zero, List.set_cons_succ]
              refine wpAnyX_take (i := 2) (oi := ⟨some 78, .fieldAddr 33 (.tmp 1) 1, _, _, _, _⟩) (v := .pointer (some ⟨w.heap.size, 1, none⟩)) rfl (by kernel_rfl) (by kernel_rfl) (by kernel_rfl) (by kernel_rfl) (fun _ _ _ h => h) (Or.inl ⟨by rfl, ?_⟩) hH0 ?_
              · intro w' hSw
                first | (go_simp; done) | (go_simp; rfl)
              simp only [Act.put, List.setIfInBounds_toArray, List.set_cons_zero, List.set_cons_succ]
              refine wpAnyX_take (i := 3) (oi := ⟨some 79, .load 3 (.tmp 78), _, _, _, _⟩) (v := .int .i64 m.N) rfl (by kernel_rfl) (by kernel_rfl) (by kernel_rfl) (by kernel_rfl) (fun _ _ _ h => h) (Or.inl ⟨by rfl, ?_⟩) hH0 ?_
              · intro w' hSw
                first | (go_simp; done) | (go_simp; rfl)
              simp only [Act.put, List.setIfInBounds_toArray, List.set_cons_zero, List.set_cons_succ]
              refine wpAnyX_take (i := 4) (oi := ⟨some 80, .fieldAddr 33 (.tmp 1) 3, _, _, _, _⟩) (v := .pointer (some ⟨w.heap.size, 3, none⟩)) rfl (by kernel_rfl) (by kernel_rfl) (by kernel_rfl) (by kernel_rfl) (fun _ _ _ h => h) (Or.inl ⟨by rfl, ?_⟩) hH0 ?_
              · intro w' hSw
                first | (go_simp; done) | (go_simp; rfl)
              simp only [Act.put, List.setIfInBounds_toArray, List.set_cons_zero, List.set_cons_succ]
              refine wpAnyX_take (i := 5) (oi := ⟨some 81, .load 31 (.tmp 80), _, _, _, _⟩) (v := .slice Ab m.Shards.length cb) rfl (by kernel_rfl) (by kernel_rfl) (by kernel_rfl) (by kernel_rfl) (fun _ _ _ h => h) (Or.inl ⟨by rfl, ?_⟩) hH0 ?_
              · intro w' hSw
                first | (go_simp; done) | (go_simp; rfl)
              simp only [Act.put, List.setIfInBounds_toArray, List.set_cons_zero, List.set_cons_succ]
              refine wpAnyX_take (i := 6) (oi := ⟨some 82, .call { callee := .builtin .len, args := #[.tmp 81], argTypes := #[31] }, _, _, _, _⟩) (v := .int .i64 (m.Shards.length : Int)) rfl (by kernel_rfl) (by kernel_rfl) (by kernel_rfl) (by kernel_rfl) (fun _ _ _ h => h) (Or.inl ⟨by rfl, ?_⟩) hH0 ?_
              · intro w' hSw
                first | (go_simp; done) | (go_simp; rfl)
              simp only [Act.put, List.setIfInBounds_toArray, List.set_cons_zero, List.set_cons_succ]
              refine wpAnyX_take (i := 9) (oi := ⟨some 85, .load 45 (.tmp 5), _, _, _, _⟩) (v := .slice A2 m2 c2) rfl (by kernel_rfl) (by kernel_rfl) (by kernel_rfl) (by kernel_rfl) (fun _ _ _ h => h) (Or.inl ⟨by rfl, ?_⟩) hH0 ?_
              · intro w' hSw
                first | (go_simp; done) | (go_simp; rfl)
              simp only [Act.put, List.setIfInBounds_toArray, List.set_cons_zero, List.set_cons_succ]
              refine wpAnyX_one (i := 7) (oi := ⟨some 83, .buildSlice 30 3 #[(0, .tmp 77), (1, .tmp 79), (2, .tmp 82)], _, _, _, _⟩) rfl (by kernel_rfl) (fun K hK => ?_)
              go_simp
              refine hK _ _ ⟨.inr hHA, ?_⟩
              clear hK K
              try simp only [Act.put, List.setIfInBounds_toArray, List.set_cons_zero, List.set_cons_succ]
              refine wpAnyX_one (i := 8) (oi := ⟨some 84, .call { callee := .value (.func 50), args := #[.tmp 83], argTypes := #[30] }, _, _, _, _⟩) rfl (by kernel_rfl) (fun K hK => ?_)
              go_simp
              refine HC.out.mono ?_
              rintro e w5 ⟨v4, rfl, ho4, B5⟩
              have hS5 := HN5.out w5 B5
              obtain ⟨HP, hD5⟩ := HDone.out w5 _ B5 ho4
              obtain ⟨A1, m1, c1, rfl⟩ := own_slice ho4
              refine hK _ _ ⟨.inr hS5, ?_⟩
              clear hK K
              try simp only [Act.put, List.setIfInBounds_toArray, List.set_cons_zero, List.set_cons_succ]
              refine wpAnyX_one (i := 10) (oi := ⟨some 2, .assign (.tmp 84), _, _, _, _⟩) rfl (by kernel_rfl) (fun K hK => ?_)
              go_simp
              refine hK _ _ ⟨.inr hS5, ?_⟩
              clear hK K
              try simp only [Act.put, List.setIfInBounds_toArray, List.set_cons_zero, List.set_cons_succ]
              refine wpAnyX_one (i := 11) (oi := ⟨some 3, .assign (.tmp 85), _, _, _, _⟩) rfl (by kernel_rfl) (fun K hK => ?_)
              go_simp
              refine hK _ _ ⟨.inr hS5, ?_⟩
              clear hK K
              try simp only [Act.put, List.setIfInBounds_toArray, List.set_cons_zero, List.set_cons_succ]
              refine wpAnyX_one (i := 12) (oi := ⟨some 4, .assign (.const (.int .i64 0)), _, _, _, _⟩) rfl (by kernel_rfl) (fun K hK => ?_)
              go_simp
              refine hK _ _ ⟨.inl rfl, ?_⟩
              clear hK K
              try simp only [Act.put, List.setIfInBounds_toArray, List.set_cons_zero, List.set_cons_succ]
              refine wpAnyX_done (by kernel_rfl) (NoPanic.normal ?_) _
              go_wp2
              refine ⟨by simp, .inl ⟨_, _, rfl, run_takeDeferred hD5, ?_⟩⟩
              exact ⟨_, by simp [results, Tryz.results25, go_sem], HP⟩
end Go.Proofs.YtgbladpoglhleaaGreatDoor
