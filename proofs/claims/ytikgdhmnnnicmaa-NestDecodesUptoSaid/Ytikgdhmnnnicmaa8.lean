/- pithfix.marks walked: the arcs of pairs, row by row. No condition. -/
import Derived.Test.YtikgdhmnnnicmaaR
namespace Go.Proofs.Ytikgdhmnnnicmaa
open Go.RowKit
def mkRow (n : Nat) (bss : List (List Bool)) (u : Nat) : List (List Bool) := if (bss.getD u []).length = 0 then bss.set u (List.replicate n false) else bss
def putB (bss : List (List Bool)) (u v : Nat) : List (List Bool) := bss.set u ((bss.getD u []).set v true)
def markF (n : Nat) (bss : List (List Bool)) (p : Pair) : List (List Bool) :=
  if p.U = p.V then bss else putB (putB (mkRow n (mkRow n bss p.U.toNat) p.V.toNat) p.U.toNat p.V.toNat) p.V.toNat p.U.toNat
def marksP (n : Nat) (ps : List Pair) : List (List Bool) := ps.foldl (markF n) (List.replicate n [])
def rowV (n : Nat) : Option Nat → Value
  | none => .slice none 0 0
  | some g => .slice (some ⟨g, 0, none⟩) n n
def bools (bs : List Bool) : List Value := bs.map Value.bool
/-- Block tb holds n rows of Booleans, each of which is nil, or a whole block of its own from block B on. -/
structure BR (w : World) (B tb n : Nat) (gs : List (Option Nat)) (bss : List (List Bool)) : Prop where
  blk : w.heap[tb]? = some (.cells (gs.map (rowV n)).toArray 47 (0, 0))
  len : gs.length = n
  lenb : bss.length = n
  lt : tb < B
  own : ∀ (i g : Nat), gs[i]? = some (some g) → B ≤ g ∧ ∃ bs, bss[i]? = some bs ∧ bs.length = n ∧ w.heap[g]? = some (.cells (bools bs).toArray 4 (0, 0))
  nil : ∀ i : Nat, gs[i]? = some none → bss[i]? = some []
  apart : ∀ (i j g : Nat), gs[i]? = some (some g) → gs[j]? = some (some g) → i = j
section
variable {w w' : World} {B tb n : Nat} {gs : List (Option Nat)} {bss : List (List Bool)}
theorem BR.kept (h : BR w B tb n gs bss) (ht : w'.heap[tb]? = w.heap[tb]?) (hk : ∀ k, B ≤ k → k < w.heap.size → w'.heap[k]? = w.heap[k]?) : BR w' B tb n gs bss :=
  { h with
    blk := ht.trans h.blk
    own := fun i g hg => by
      obtain ⟨h1, bs, h2, h3, h4⟩ := h.own i g hg
      exact ⟨h1, bs, h2, h3, (hk g h1 (blk_lt h4)).trans h4⟩ }
theorem BR.below (h : BR w B tb n gs bss) (hb : Below w.heap.size w w') : BR w' B tb n gs bss := h.kept (hb.block _ (blk_lt h.blk)) fun k _ hk => hb.block k hk
theorem BR.cell (h : BR w B tb n gs bss) {i : Nat} {o : Option Nat} (hi : gs[i]? = some o) : w.cell? ⟨tb, i, none⟩ = some (rowV n o) ∧ w.frozen? ⟨tb, i, none⟩ = false := by
  constructor
  · refine cell_blk h.blk ?_
    simp [hi]
  · simp [World.frozen?, h.blk]
theorem BR.at (h : BR w B tb n gs bss) {i g : Nat} (hi : gs[i]? = some (some g)) {j : Nat} (hj : j < n) : ∃ bs, bss[i]? = some bs ∧ bs.length = n ∧ w.cell? ⟨g, j, none⟩ = some (.bool (bs.getD j false)) ∧ w.frozen? ⟨g, j, none⟩ = false := by
  obtain ⟨h1, bs, h2, h3, h4⟩ := h.own i g hi
  refine ⟨bs, h2, h3, cell_blk h4 ?_, by simp [World.frozen?, h4]⟩
  have : j < bs.length := by omega
  simp [bools, this]
theorem BR.make (h : BR w B tb n gs bss) (hB : B ≤ w.heap.size) {u : Nat} (hu : gs[u]? = some none) :
    BR ((w.alloc (.cells (madeCells #[.bool false] n) 4)).setCell ⟨tb, u, none⟩ (.slice (some ⟨w.heap.size, 0, none⟩) n n)) B tb n (gs.set u (some w.heap.size)) (bss.set u (List.replicate n false)) := by
  have hun := (List.getElem?_eq_some_iff.1 hu).1
  have hlt := h.lt
  have hlen := h.len
  have hlenb := h.lenb
  have hst : ∀ k, k ≠ tb → ((w.alloc (.cells (madeCells #[.bool false] n) 4)).setCell ⟨tb, u, none⟩ (.slice (some ⟨w.heap.size, 0, none⟩) n n)).heap[k]? = (w.alloc (.cells (madeCells #[.bool false] n) 4)).heap[k]? := fun k hk => Below.heap_setCell _ _ _ _ hk
  have hal : ∀ k, k < w.heap.size → (w.alloc (.cells (madeCells #[.bool false] n) 4)).heap[k]? = w.heap[k]? := fun k hk => Below.heap_alloc w _ k hk
  refine ⟨?_, by simp [hlen], by simp [hlenb], hlt, fun i g hg => ?_, fun i hi => ?_, fun i j g hi hj => ?_⟩
  · have h1 : (w.alloc (.cells (madeCells #[.bool false] n) 4)).heap[tb]? = some (.cells (gs.map (rowV n)).toArray 47 (0, 0)) := (hal tb (by omega)).trans h.blk
    simp [World.setCell, Array.getElem?_modify, h1, rowV]
  · by_cases e : u = i
    · subst e
      rw [List.getElem?_set_self hun] at hg
      cases hg
      refine ⟨hB, List.replicate n false, List.getElem?_set_self (by omega), by simp, ?_⟩
      rw [hst _ (by omega), heap_alloc_new]
      have : madeCells #[.bool false] n = (bools (List.replicate n false)).toArray := by
        rw [bools, List.map_replicate, ← toList_madeCells_one]
      rw [this]
    · rw [List.getElem?_set_ne e] at hg
      obtain ⟨h1, bs, h2, h3, h4⟩ := h.own i g hg
      exact ⟨h1, bs, by rw [List.getElem?_set_ne e]; exact h2, h3, (hst g (by omega)).trans ((hal g (blk_lt h4)).trans h4)⟩
  · by_cases e : u = i
    · subst e
      rw [List.getElem?_set_self hun] at hi
      cases hi
    · rw [List.getElem?_set_ne e] at hi ⊢
      exact h.nil i hi
  · have hnew : ∀ a, gs[a]? ≠ some (some w.heap.size) := fun a ha => by
      obtain ⟨_, _, _, _, h4⟩ := h.own a _ ha
      have := blk_lt h4
      omega
    by_cases e1 : u = i <;> by_cases e2 : u = j
    · omega
    · subst e1
      rw [List.getElem?_set_self hun] at hi
      cases hi
      rw [List.getElem?_set_ne e2] at hj
      exact absurd hj (hnew j)
    · subst e2
      rw [List.getElem?_set_self hun] at hj
      cases hj
      rw [List.getElem?_set_ne e1] at hi
      exact absurd hi (hnew i)
    · rw [List.getElem?_set_ne e1] at hi
      rw [List.getElem?_set_ne e2] at hj
      exact h.apart i j g hi hj
theorem mkRow_nil (h : BR w B tb n gs bss) {u : Nat} (hu : gs[u]? = some none) : mkRow n bss u = bss.set u (List.replicate n false) := by
  unfold mkRow
  rw [List.getD_eq_getElem?_getD, h.nil u hu]
  rfl
theorem mkRow_own (h : BR w B tb n gs bss) {u g : Nat} (hn : 0 < n) (hu : gs[u]? = some (some g)) : mkRow n bss u = bss := by
  obtain ⟨_, bs, h2, h3, _⟩ := h.own u g hu
  unfold mkRow
  rw [List.getD_eq_getElem?_getD, h2, if_neg (by show ¬ bs.length = 0; omega)]
theorem BR.put (h : BR w B tb n gs bss) {u g : Nat} (hu : gs[u]? = some (some g)) (v : Nat) : BR (w.setCell ⟨g, v, none⟩ (.bool true)) B tb n gs (putB bss u v) := by
  obtain ⟨h1, bs, h2, h3, h4⟩ := h.own u g hu
  have hlt := h.lt
  have hlenb := h.lenb
  have hub := (List.getElem?_eq_some_iff.1 h2).1
  have hst : ∀ k, k ≠ g → (w.setCell ⟨g, v, none⟩ (.bool true)).heap[k]? = w.heap[k]? := fun k hk => Below.heap_setCell _ _ _ _ hk
  have hgd : bss.getD u [] = bs := by rw [List.getD_eq_getElem?_getD, h2]; rfl
  unfold putB
  rw [hgd]
  refine ⟨(hst tb (by omega)).trans h.blk, h.len, by simp [hlenb], hlt, fun i g' hg => ?_, fun i hi => ?_, h.apart⟩
  · obtain ⟨q1, bs', q2, q3, q4⟩ := h.own i g' hg
    by_cases e : u = i
    · subst e
      rw [hu] at hg
      cases hg
      refine ⟨q1, bs.set v true, List.getElem?_set_self hub, by simp [h3], ?_⟩
      simp [World.setCell, Array.getElem?_modify, h4, bools, List.map_set]
    · have : g' ≠ g := fun e' => e (by rw [e'] at hg; exact h.apart u i g hu hg)
      exact ⟨q1, bs', by rw [List.getElem?_set_ne e]; exact q2, q3, (hst g' this).trans q4⟩
  · by_cases e : u = i
    · subst e
      rw [hu] at hi
      cases hi
    · rw [List.getElem?_set_ne e]
      exact h.nil i hi
end
/-- What marks hands back. -/
def MarksPost (w : World) (n : Nat) (bss : List (List Bool)) (e : Ending) (w' : World) : Prop :=
  ∃ tb gs, e = .returned (.slice (some ⟨tb, 0, none⟩) n n) ∧ w.heap.size ≤ tb ∧ BR w' (tb + 1) tb n gs bss ∧ Below w.heap.size w w'
set_option maxHeartbeats 4000000 in
set_option maxRecDepth 100000 in
theorem marks_any {w : World} {ok : Nat → Prop} {v : Value} {ps : List Pair} {n : Nat} (hs : Sl kpair w ok v ps) (hn : n ≤ 16777216) (hp : ∀ p ∈ ps, 0 ≤ p.U ∧ p.U < n ∧ 0 ≤ p.V ∧ p.V < n) :
    Calls Try.prog 65 #[.int .i64 n, v] w (MarksPost w n (marksP n ps)) := by
  obtain ⟨A, c, rfl, hc, hm⟩ := hs.slice
  have HS := Aside.mk hs
  have HP := Aside.mk hp
  have HN := Aside.mk hn
  have hmk := run_make_row' (P := Try.prog) 106 47 (.slice none 0 0) 24 Try.underlying106 (by kernel_rfl) rfl .i64 .i64 n (by omega) (by omega)
  have hmk2 := run_make_row' (P := Try.prog) 47 4 (.bool false) 1 Try.underlying47 (by kernel_rfl) rfl .i64 .i64 n (by omega) (by omega)
  clear hs hp hn
  have HR0 : Aside (BR (w.alloc (.cells (madeCells #[.slice none 0 0] n) 47)) (w.heap.size + 1) w.heap.size n (List.replicate n none) (List.replicate n [])) := ⟨{
    blk := by
      rw [heap_alloc_new, List.map_replicate]
      have : madeCells #[.slice none 0 0] n = (List.replicate n (rowV n none)).toArray := by rw [← toList_madeCells_one]; rfl
      rw [this]
    len := by simp
    lenb := by simp
    lt := Nat.lt_succ_self _
    own := fun i g h => by
      have := List.eq_of_mem_replicate (List.mem_of_getElem? h)
      cases this
    nil := fun i h => by
      have hi := (List.getElem?_eq_some_iff.1 h).1
      rw [List.length_replicate] at hi
      rw [List.getElem?_replicate, if_pos hi]
    apart := fun i j g h => by
      have := List.eq_of_mem_replicate (List.mem_of_getElem? h)
      cases this }⟩
  have HB0 := Aside.mk ((Below.refl _ w).alloc (Nat.le_refl _) (.cells (madeCells #[.slice none 0 0] n) 47))
  have HZ0 : Aside (w.heap.size + 1 ≤ (w.alloc (.cells (madeCells #[.slice none 0 0] n) 47)).heap.size) := ⟨by simp⟩
  go_enter Try.func65, Try.ntmps65
  go_wp2
  obtain ⟨tb, htb⟩ : ∃ tb, tb = w.heap.size := ⟨_, rfl⟩
  rw [← htb] at HR0 HB0 HZ0 ⊢
  generalize w.alloc (.cells (madeCells #[.slice none 0 0] n) 47) = w0 at *
  have HTB := Aside.mk htb
  clear htb hmk
  go_loopg [6] ps.length (fun kq iv wr => ∃ (i : Nat) (gs : List (Option Nat)), Aside (i + kq = ps.length) ∧ iv = .int .i64 i ∧ Aside (BR wr (tb + 1) tb n gs (marksP n (ps.take i))) ∧ Aside (Below tb w wr) ∧ Aside (tb + 1 ≤ wr.heap.size))
  case atStart => exact ⟨0, _, ⟨by omega⟩, rfl, HR0, HB0, HZ0⟩
  case round =>
    clear HR0 HB0 HZ0
    obtain ⟨i, gs, HI, rfl, HR, HB, HZ⟩ := hrel
    by_cases hi : i < ps.length
    · obtain ⟨b, o, e, k0, k1⟩ := (HS.out.below (by rw [← HTB.out]; exact HB.out)).pair i hi
      cases e
      have hq := HP.out ps[i] (List.getElem_mem hi)
      have HT : Aside (marksP n (ps.take (i + 1)) = markF n (marksP n (ps.take i)) ps[i]) := ⟨by
        unfold marksP
        rw [List.take_add_one, List.getElem?_eq_getElem hi, Option.toList_some, List.foldl_append]
        rfl⟩
      generalize ps[i] = p at *
      obtain ⟨pu, pv⟩ := p
      simp only at hq k0 k1
      obtain ⟨U, rfl⟩ := Int.eq_ofNat_of_zero_le hq.1
      obtain ⟨V, rfl⟩ := Int.eq_ofNat_of_zero_le hq.2.2.1
      have hU : U < n := by omega
      have hV : V < n := by omega
      generalize marksP n (ps.take i) = bss at *
      by_cases huv : U = V
      · subst huv
        obtain ⟨d1, d2, d3, d4⟩ := natEq (rfl : U = U)
        clear hq
        go_wp2
        go_roundg (ps.length - (i + 1))
        case measure => have := HI.out; omega
        case rel => exact ⟨i + 1, gs, ⟨by omega⟩, by go_num, ⟨by rw [HT.out]; simpa [markF] using HR.out⟩, HB, HZ⟩
      · obtain ⟨d1, d2, d3, d4⟩ := natNe huv
        have HUV := Aside.mk huv
        have hn0 : ((n : Int) == 0) = false := by simp; omega
        clear hq huv
        obtain ⟨o', ho⟩ : ∃ o, gs[U]? = some o := ⟨_, List.getElem?_eq_getElem (by rw [HR.out.len]; exact hU)⟩
        obtain ⟨hc, hf⟩ := HR.out.cell ho
        obtain ⟨A1, L1, C1, hr1⟩ : ∃ A L C, rowV n o' = .slice A L C := by cases o' <;> exact ⟨_, _, _, rfl⟩
        rw [hr1] at hc
        have HO := Aside.mk (And.intro ho hr1)
        clear ho hr1
        go_upto_if 35 with (fail)
        go_cut [] (fun wx => ∃ gs', Aside (BR wx (tb + 1) tb n gs' (mkRow n bss U)) ∧ Aside (∃ g, gs'[U]? = some (some g)) ∧ Aside (Below tb w wx) ∧ Aside (tb + 1 ≤ wx.heap.size))
        case first =>
          obtain ⟨ho, hr1⟩ := HO.out
          have HO1 := Aside.mk ho
          clear ho
          cases o' with
          | none =>
            cases hr1
            have hba : (wr.alloc (.cells (madeCells #[.bool false] n) 4)).heap[tb]? = wr.heap[tb]? := Below.heap_alloc wr _ tb (by have := HZ.out; omega)
            have hca : (wr.alloc (.cells (madeCells #[.bool false] n) 4)).cell? ⟨tb, U, none⟩ = _ := (World.cell?_of_block hba).trans hc
            have hfa : (wr.alloc (.cells (madeCells #[.bool false] n) 4)).frozen? ⟨tb, U, none⟩ = _ := (World.frozen?_of_block hba).trans hf
            clear hba
            go_wp2
            go_meet
            case rel => exact ⟨_, ⟨by rw [mkRow_nil HR.out HO1.out]; exact HR.out.make HZ.out HO1.out⟩, ⟨⟨_, List.getElem?_set_self (by rw [HR.out.len]; exact hU)⟩⟩, ⟨(HB.out.alloc (by have := HZ.out; omega) _).setCell (Nat.le_refl _) _⟩, ⟨by have := HZ.out; simp; omega⟩⟩
          | some g =>
            cases hr1
            go_wp2
            go_meet
            case rel => exact ⟨gs, ⟨by rw [mkRow_own HR.out (by omega) HO1.out]; exact HR.out⟩, ⟨⟨g, HO1.out⟩⟩, HB, HZ⟩
        case rest =>
          clear hc hf HO HR HB HZ
          obtain ⟨gs1, HR1, HU1, HB1, HZ1⟩ := hcut
          generalize he1 : mkRow n bss U = bss1 at *
          have HE1 := Aside.mk he1
          clear he1
          obtain ⟨w1, rfl⟩ : ∃ w1, w1 = wc := ⟨_, rfl⟩
          obtain ⟨o', ho⟩ : ∃ o, gs1[V]? = some o := ⟨_, List.getElem?_eq_getElem (by rw [HR1.out.len]; exact hV)⟩
          obtain ⟨hc, hf⟩ := HR1.out.cell ho
          obtain ⟨A1, L1, C1, hr1⟩ : ∃ A L C, rowV n o' = .slice A L C := by cases o' <;> exact ⟨_, _, _, rfl⟩
          rw [hr1] at hc
          have HO := Aside.mk (And.intro ho hr1)
          clear ho hr1
          go_upto_if 46 with (fail)
          go_cut [] (fun wx => ∃ gs', Aside (BR wx (tb + 1) tb n gs' (mkRow n bss1 V)) ∧ Aside (∃ g, gs'[U]? = some (some g)) ∧ Aside (∃ g, gs'[V]? = some (some g)) ∧ Aside (Below tb w wx) ∧ Aside (tb + 1 ≤ wx.heap.size))
          case first =>
            obtain ⟨ho, hr1⟩ := HO.out
            have HO1 := Aside.mk ho
            clear ho
            cases o' with
            | none =>
              cases hr1
              have hba : (w1.alloc (.cells (madeCells #[.bool false] n) 4)).heap[tb]? = w1.heap[tb]? := Below.heap_alloc w1 _ tb (by have := HZ1.out; omega)
              have hca : (w1.alloc (.cells (madeCells #[.bool false] n) 4)).cell? ⟨tb, V, none⟩ = _ := (World.cell?_of_block hba).trans hc
              have hfa : (w1.alloc (.cells (madeCells #[.bool false] n) 4)).frozen? ⟨tb, V, none⟩ = _ := (World.frozen?_of_block hba).trans hf
              clear hba
              go_wp2
              go_meet
              case rel => exact ⟨_, ⟨by rw [mkRow_nil HR1.out HO1.out]; exact HR1.out.make HZ1.out HO1.out⟩, ⟨by obtain ⟨g, hg⟩ := HU1.out; exact ⟨g, by rw [List.getElem?_set_ne (Ne.symm HUV.out)]; exact hg⟩⟩, ⟨⟨_, List.getElem?_set_self (by rw [HR1.out.len]; exact hV)⟩⟩, ⟨(HB1.out.alloc (by have := HZ1.out; omega) _).setCell (Nat.le_refl _) _⟩, ⟨by have := HZ1.out; simp; omega⟩⟩
            | some g =>
              cases hr1
              go_wp2
              go_meet
              case rel => exact ⟨gs1, ⟨by rw [mkRow_own HR1.out (by omega) HO1.out]; exact HR1.out⟩, HU1, ⟨⟨g, HO1.out⟩⟩, HB1, HZ1⟩
          case rest =>
            clear hc hf HO HR1 HB1 HZ1 HU1
            obtain ⟨gs2, HR2, HU2, HV2, HB2, HZ2⟩ := hcut
            generalize he2 : mkRow n bss1 V = bss2 at *
            have HE2 := Aside.mk he2
            clear he2
            obtain ⟨w2, rfl⟩ : ∃ w2, w2 = wc := ⟨_, rfl⟩
            obtain ⟨gU, hgU⟩ := HU2.out
            obtain ⟨gV, hgV⟩ := HV2.out
            obtain ⟨c1, f1⟩ := HR2.out.cell hgU
            obtain ⟨bs1, _, _, c2, f2⟩ := HR2.out.at hgU hV
            simp only [rowV] at c1
            have HG := Aside.mk (And.intro hgU hgV)
            have hgb : tb + 1 ≤ gU := (HR2.out.own U gU hgU).1
            have hgb2 : tb + 1 ≤ gV := (HR2.out.own V gV hgV).1
            clear hgU hgV
            go_upto_region 13 with (fail)
            have HR3 := Aside.mk (HR2.out.put HG.out.1 V)
            have HB3 : Aside (Below tb w (w2.setCell ⟨gU, V, none⟩ (.bool true))) := ⟨HB2.out.setCell (by show tb ≤ gU; omega) _⟩
            have HZ3 : Aside (tb + 1 ≤ (w2.setCell ⟨gU, V, none⟩ (.bool true)).heap.size) := ⟨by have := HZ2.out; simpa using this⟩
            clear c1 f1 c2 f2 HR2 HB2 HZ2
            generalize w2.setCell ⟨gU, V, none⟩ (.bool true) = w3 at *
            obtain ⟨c1, f1⟩ := HR3.out.cell HG.out.2
            obtain ⟨bs2, _, _, c2, f2⟩ := HR3.out.at HG.out.2 hU
            simp only [rowV] at c1
            go_wp2
            have HR4 := Aside.mk (HR3.out.put HG.out.2 U)
            have HB4 : Aside (Below tb w (w3.setCell ⟨gV, U, none⟩ (.bool true))) := ⟨HB3.out.setCell (by show tb ≤ gV; omega) _⟩
            have HZ4 : Aside (tb + 1 ≤ (w3.setCell ⟨gV, U, none⟩ (.bool true)).heap.size) := ⟨by have := HZ3.out; simpa using this⟩
            go_roundg (ps.length - (i + 1))
            case measure => have := HI.out; omega
            case rel => exact ⟨i + 1, gs2, ⟨by omega⟩, by go_num, ⟨by rw [HT.out]; unfold markF; rw [if_neg (by have := HUV.out; show ¬ ((U : Int) = V); omega)]; simp only [Int.toNat_natCast]; rw [HE1.out, HE2.out]; exact HR4.out⟩, HB4, HZ4⟩
    · have ht : ps.take i = ps := List.take_of_length_le (by omega)
      have HQ : Aside (MarksPost w n (marksP n ps) (.returned (.slice (some ⟨tb, 0, none⟩) n n)) wr) := ⟨tb, gs, rfl, by rw [HTB.out]; exact Nat.le_refl _, by rw [← ht]; exact HR.out, by rw [← HTB.out]; exact HB.out⟩
      replace hi : ps.length ≤ i := by omega
      clear ht HR HB HZ
      go_wp2
      go_ret
      exact HQ.out
end Go.Proofs.Ytikgdhmnnnicmaa
