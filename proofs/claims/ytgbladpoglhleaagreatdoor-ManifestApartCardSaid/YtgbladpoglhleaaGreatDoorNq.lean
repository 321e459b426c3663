/- The document's owned. No condition. -/
import Derived.Test.YtgbladpoglhleaaGreatDoorNp
namespace Go.Proofs.YtgbladpoglhleaaGreatDoor
open Go.RowKit Go.Lib
/-- Is a name owned, by its parts? -/
def ownedW (names : List (List UInt8)) (ps : List (List UInt8)) (gen shards : Int) : Bool :=
  if ps.headD [] = [116] then false else if ps.headD [] = bManifest then true else
  if numZ (ps.getD 1 []) ≠ gen then false else
  if ps.headD [] = [115] then decide (numZ (ps.getD 2 []) < shards) else
  if ps.length = 4 then standsB names ([120, 46] ++ ps.getD 1 [] ++ [46] ++ ps.getD 2 []) && decide (numZ (ps.getD 3 []) < shards) else true
def ownedF (names : List (List UInt8)) (l : List UInt8) (gen shards : Int) : Bool := oursF l && ownedW names (split46 l) gen shards
/-- What a name of the engine's looks like. -/
inductive Looks : List (List UInt8) → Prop
  | man : Looks [bManifest]
  | one (x p) (h : x = bCore ∨ x = bOrder ∨ x = bNest ∨ x = bCkpt) : Looks [x, p]
  | s (p q) : Looks [[115], p, q]
  | x2 (p q) : Looks [[120], p, q]
  | x3 (p q r) : Looks [[120], p, q, r]
  | t (xs) : Looks ([116] :: xs)
theorem ours_looks {l : List UInt8} (h : oursF l = true) : Looks (split46 l) := by
  unfold oursF at h
  cases hs : split46 l with
  | nil => exact absurd hs (split46_ne l)
  | cons x xs =>
    rw [hs] at h
    simp only [List.headD_cons, List.length_cons, List.tail_cons] at h
    unfold oursW at h
    split at h
    · rename_i e
      subst e
      have : xs = [] := List.eq_nil_of_length_eq_zero (by simpa using h)
      subst this
      exact .man
    · split at h
      · rename_i e
        simp only [Bool.and_eq_true, beq_iff_eq] at h
        match xs, h.1 with
        | [p], _ => exact .one x p e
      · split at h
        · rename_i e
          subst e
          simp only [Bool.and_eq_true, beq_iff_eq] at h
          match xs, h.1 with
          | [p, q], _ => exact .s p q
        · split at h
          · rename_i e
            subst e
            simp only [Bool.and_eq_true, Bool.or_eq_true, beq_iff_eq] at h
            rcases h.1 with h1 | h1
            · match xs, h1 with
              | [p, q], _ => exact .x2 p q
            · match xs, h1 with
              | [p, q, r], _ => exact .x3 p q r
          · split at h
            · rename_i e
              subst e
              exact .t xs
            · cases h
theorem parts_len : ∀ (l : List UInt8), (split46 l).length ≤ l.length + 1 ∧ ∀ p ∈ split46 l, p.length ≤ l.length
  | [] => by simp [split46]
  | c :: cs => by
    obtain ⟨h1, h2⟩ := parts_len cs
    rw [split46]
    split
    · refine ⟨by simp; omega, fun p hp => ?_⟩
      rcases List.mem_cons.1 hp with rfl | hp
      · simp
      · have := h2 p hp
        simp; omega
    · cases hq : split46 cs with
      | nil => exact absurd hq (split46_ne cs)
      | cons y ys =>
        rw [hq] at h1 h2
        refine ⟨by simp at h1 ⊢; omega, fun p hp => ?_⟩
        rcases List.mem_cons.1 hp with rfl | hp
        · have := h2 y (List.mem_cons_self ..)
          simp; omega
        · have := h2 p (List.mem_cons_of_mem _ hp)
          simp; omega
set_option maxHeartbeats 4000000 in
set_option maxRecDepth 100000 in
theorem refOwned1_any {w : World} {ok : Nat → Prop} {v : Value} {names : List (List UInt8)} (s : ByteArray) (gen shards : Int) (hs : s.size ≤ 4096) (hn : Sl kstr w ok v names) :
    Calls Tryz.prog 46 #[v, .string s, .int .i64 gen, .int .i64 shards] w fun e w' => e = .returned (.bool (ownedF names s.data.toList gen shards)) ∧ Below w.heap.size w w' := by
  have hcall := refOurs_any (w := w) s hs
  obtain ⟨A, c, rfl, hc, hm⟩ := hn.slice
  go_enter Tryz.func46, Tryz.ntmps46
  go_wp2_with fail
  refine hcall.mono ?_
  clear hcall
  rintro e w1 ⟨rfl, B1⟩
  have hcall := parts_any (w := w1) s hs
  go_wp2_with fail
  refine hcall.mono ?_
  clear hcall
  rintro e w2 ⟨vp, rfl, ho, B2⟩
  have HF : Aside (ownedF names s.data.toList gen shards = (oursF s.data.toList && ownedW names (split46 s.data.toList) gen shards)) := ⟨rfl⟩
  have HB := Aside.mk (bthen B1 B1.size B2)
  have hsl := (own_strs ho).sl
  have HN := Aside.mk ((hn.below B1).below B2)
  have hlen := parts_len s.data.toList
  rw [show s.data.toList.length = s.size by simp] at hlen
  clear hn B1 B2
  cases hO : oursF s.data.toList with
  | false =>
    rw [hO] at HF
    cases hps : split46 s.data.toList with
    | nil => exact absurd hps (split46_ne _)
    | cons x xs =>
      rw [hps] at hsl ho
      obtain ⟨A2, c2, rfl, hc2, hm2⟩ := hsl.slice
      obtain ⟨b, o, e, k0⟩ := hsl.str 0 (by simp)
      cases e
      simp only [List.getElem_cons_zero, Nat.add_zero] at k0
      clear ho hsl hps hlen
      go_wp2
      go_ret
      exact ⟨retb HF.out, HB.out⟩
  | true =>
    have hlk := ours_looks hO
    rw [hO, Bool.true_and] at HF
    clear hO
    generalize split46 s.data.toList = ps at *
    obtain ⟨A2, c2, rfl, hc2, hm2⟩ := hsl.slice
    cases hlk with
    | man =>
      obtain ⟨b, o, e, k0⟩ := hsl.str 0 (by simp)
      cases e
      simp only [List.getElem_cons_zero, Nat.add_zero, bManifest] at k0
      clear ho hsl hlen
      go_wp2
      go_ret
      exact ⟨retb (by rw [HF.out]; rfl), HB.out⟩
    | t xs =>
      obtain ⟨b, o, e, k0⟩ := hsl.str 0 (by simp)
      cases e
      simp only [List.getElem_cons_zero, Nat.add_zero] at k0
      clear ho hsl hlen
      go_wp2
      go_ret
      exact ⟨retb (by rw [HF.out]; rfl), HB.out⟩
    | one x p hx =>
      obtain ⟨b, o, e, k0⟩ := hsl.str 0 (by simp)
      cases e
      obtain ⟨b', o', e, k1⟩ := hsl.str 1 (by simp)
      cases e
      simp only [List.getElem_cons_zero, List.getElem_cons_succ, Nat.add_zero] at k0 k1
      have n0 : (x == [116]) = false := by rcases hx with rfl | rfl | rfl | rfl <;> rfl
      have n1 : (x == [109, 97, 110, 105, 102, 101, 115, 116]) = false := by rcases hx with rfl | rfl | rfl | rfl <;> rfl
      have n2 : (x == [115]) = false := by rcases hx with rfl | rfl | rfl | rfl <;> rfl
      have HW : Aside (ownedW names [x, p] gen shards = decide (numZ p = gen)) := ⟨by
        have m0 : x ≠ [116] := by simpa using n0
        have m1 : x ≠ bManifest := by unfold bManifest; simpa using n1
        have m2 : x ≠ [115] := by simpa using n2
        simp [ownedW, m0, m1, m2]⟩
      clear hx
      obtain ⟨z, hz⟩ : ∃ z, z = numZ p := ⟨_, rfl⟩
      have HZ : Aside (numZ (⟨p.toArray⟩ : ByteArray).data.toList = z) := ⟨hz.symm⟩
      clear ho hsl hlen
      go_wp2_with fail
      refine (Number_any ⟨p.toArray⟩).mono ?_
      rintro e w3 ⟨rfl, ⟨⟨n, rfl⟩⟩⟩
      rw [HZ.out]
      by_cases hg : z = gen
      · have g1 : (z != gen) = false := by simpa using hg
        have HR : Aside (ownedF names s.data.toList gen shards = true) := ⟨by rw [HF.out, HW.out, ← hz]; exact decide_eq_true hg⟩
        clear hg hz
        go_wp2
        go_ret
        exact ⟨retb HR.out, bdrew HB.out n⟩
      · have g1 : (z != gen) = true := by simpa using hg
        have HR : Aside (ownedF names s.data.toList gen shards = false) := ⟨by rw [HF.out, HW.out, ← hz]; exact decide_eq_false hg⟩
        clear hg hz
        go_wp2
        go_ret
        exact ⟨retb HR.out, bdrew HB.out n⟩
    | s p q =>
      obtain ⟨b, o, e, k0⟩ := hsl.str 0 (by simp)
      cases e
      obtain ⟨b', o', e, k1⟩ := hsl.str 1 (by simp)
      cases e
      obtain ⟨b', o', e, k2⟩ := hsl.str 2 (by simp)
      cases e
      simp only [List.getElem_cons_zero, List.getElem_cons_succ, Nat.add_zero] at k0 k1 k2
      have HW : Aside (ownedW names [[115], p, q] gen shards = (decide (numZ p = gen) && decide (numZ q < shards))) := ⟨by
        by_cases h : numZ p = gen <;> simp [ownedW, bManifest, h]⟩
      obtain ⟨y, hy⟩ : ∃ y, y = numZ q := ⟨_, rfl⟩
      have HY : Aside (numZ (⟨q.toArray⟩ : ByteArray).data.toList = y) := ⟨hy.symm⟩
      obtain ⟨z, hz⟩ : ∃ z, z = numZ p := ⟨_, rfl⟩
      have HZ : Aside (numZ (⟨p.toArray⟩ : ByteArray).data.toList = z) := ⟨hz.symm⟩
      clear ho hsl hlen
      go_wp2_with fail
      refine (Number_any ⟨p.toArray⟩).mono ?_
      rintro e w3 ⟨rfl, ⟨⟨n, rfl⟩⟩⟩
      rw [HZ.out]
      by_cases hg : z = gen
      · have g1 : (z != gen) = false := by simpa using hg
        have HR : Aside (ownedF names s.data.toList gen shards = decide (y < shards)) := ⟨by rw [HF.out, HW.out, ← hz, ← hy, decide_eq_true hg]; rfl⟩
        clear hg hz hy
        go_wp2_with fail
        refine (Number_any ⟨q.toArray⟩).mono ?_
        rintro e w4 ⟨rfl, ⟨⟨n2, rfl⟩⟩⟩
        rw [HY.out, World.drewN_drewN]
        go_wp2
        go_ret
        exact ⟨retb HR.out, bdrew HB.out _⟩
      · have g1 : (z != gen) = true := by simpa using hg
        have HR : Aside (ownedF names s.data.toList gen shards = false) := ⟨by rw [HF.out, HW.out, ← hz, decide_eq_false hg]; rfl⟩
        clear hg hz hy
        go_wp2
        go_ret
        exact ⟨retb HR.out, bdrew HB.out n⟩
    | x2 p q =>
      obtain ⟨b, o, e, k0⟩ := hsl.str 0 (by simp)
      cases e
      obtain ⟨b', o', e, k1⟩ := hsl.str 1 (by simp)
      cases e
      obtain ⟨b', o', e, k2⟩ := hsl.str 2 (by simp)
      cases e
      simp only [List.getElem_cons_zero, List.getElem_cons_succ, Nat.add_zero] at k0 k1 k2
      have HW : Aside (ownedW names [[120], p, q] gen shards = decide (numZ p = gen)) := ⟨by simp [ownedW, bManifest]⟩
      obtain ⟨z, hz⟩ : ∃ z, z = numZ p := ⟨_, rfl⟩
      have HZ : Aside (numZ (⟨p.toArray⟩ : ByteArray).data.toList = z) := ⟨hz.symm⟩
      clear ho hsl hlen
      go_wp2_with fail
      refine (Number_any ⟨p.toArray⟩).mono ?_
      rintro e w3 ⟨rfl, ⟨⟨n, rfl⟩⟩⟩
      rw [HZ.out]
      by_cases hg : z = gen
      · have g1 : (z != gen) = false := by simpa using hg
        have HR : Aside (ownedF names s.data.toList gen shards = true) := ⟨by rw [HF.out, HW.out, ← hz]; exact decide_eq_true hg⟩
        clear hg hz
        go_wp2
        go_ret
        exact ⟨retb HR.out, bdrew HB.out n⟩
      · have g1 : (z != gen) = true := by simpa using hg
        have HR : Aside (ownedF names s.data.toList gen shards = false) := ⟨by rw [HF.out, HW.out, ← hz]; exact decide_eq_false hg⟩
        clear hg hz
        go_wp2
        go_ret
        exact ⟨retb HR.out, bdrew HB.out n⟩
    | x3 p q r =>
      obtain ⟨b, o, e, k0⟩ := hsl.str 0 (by simp)
      cases e
      obtain ⟨b', o', e, k1⟩ := hsl.str 1 (by simp)
      cases e
      obtain ⟨b', o', e, k2⟩ := hsl.str 2 (by simp)
      cases e
      obtain ⟨b', o', e, k3⟩ := hsl.str 3 (by simp)
      cases e
      simp only [List.getElem_cons_zero, List.getElem_cons_succ, Nat.add_zero] at k0 k1 k2 k3
      have HW : Aside (ownedW names [[120], p, q, r] gen shards = (decide (numZ p = gen) && (standsB names ([120, 46] ++ p ++ [46] ++ q) && decide (numZ r < shards)))) := ⟨by
        by_cases h : numZ p = gen <;> simp [ownedW, bManifest, h]⟩
      obtain ⟨y, hy⟩ : ∃ y, y = numZ r := ⟨_, rfl⟩
      have HY : Aside (numZ (⟨r.toArray⟩ : ByteArray).data.toList = y) := ⟨hy.symm⟩
      obtain ⟨z, hz⟩ : ∃ z, z = numZ p := ⟨_, rfl⟩
      have HZ : Aside (numZ (⟨p.toArray⟩ : ByteArray).data.toList = z) := ⟨hz.symm⟩
      have hp := hlen.2 p (by simp)
      have hq := hlen.2 q (by simp)
      clear ho hsl hlen
      go_wp2_with fail
      refine (Number_any ⟨p.toArray⟩).mono ?_
      rintro e w3 ⟨rfl, ⟨⟨n, rfl⟩⟩⟩
      rw [HZ.out]
      by_cases hg : z = gen
      · have g1 : (z != gen) = false := by simpa using hg
        have HR : Aside (ownedF names s.data.toList gen shards = (standsB names ([120, 46] ++ p ++ [46] ++ q) && decide (y < shards))) := ⟨by rw [HF.out, HW.out, ← hz, ← hy, decide_eq_true hg]; rfl⟩
        clear hg hz hy
        have hv : strV ([120, 46] ++ p ++ [46] ++ q) = .string ((⟨#[120, 46]⟩ : ByteArray) ++ ⟨p.toArray⟩ ++ ⟨#[46]⟩ ++ ⟨q.toArray⟩) := by
          unfold strV
          congr 1
        have hst := Aside.mk fun k => stands_any (w := w2.drewN k) (y := [120, 46] ++ p ++ [46] ++ q) (HN.out.move (w' := w2.drewN k) fun _ _ => rfl)
        rw [hv] at hst
        clear hv
        have b1 : ¬ 9223372036854775807 < 2 + p.length := by omega
        have b2 : ¬ 9223372036854775807 < 2 + p.length + 1 := by omega
        have b3 : ¬ 9223372036854775807 < 2 + p.length + 1 + q.length := by omega
        generalize standsB names ([120, 46] ++ p ++ [46] ++ q) = st at *
        go_upto_region 12 with (fail)
        go_quiet (first | (go_at_call 76; go_must (refine (hst.out _).mono ?_; rintro e w9 ⟨h1, ⟨⟨m, h2⟩⟩⟩; exact ⟨h1, _, by rw [h2, World.drewN_drewN, Nat.add_assoc]⟩)))
        rw [World.drewN_drewN]
        cases st with
        | false =>
          go_wp2
          go_ret
          exact ⟨retb HR.out, bdrew HB.out _⟩
        | true =>
          go_wp2_with fail
          refine (Number_any ⟨r.toArray⟩).mono ?_
          rintro e w4 ⟨rfl, ⟨⟨n2, rfl⟩⟩⟩
          rw [HY.out, World.drewN_drewN]
          go_wp2
          go_ret
          exact ⟨retb HR.out, bdrew HB.out _⟩
      · have g1 : (z != gen) = true := by simpa using hg
        have HR : Aside (ownedF names s.data.toList gen shards = false) := ⟨by rw [HF.out, HW.out, ← hz, decide_eq_false hg]; rfl⟩
        clear hg hz hy
        go_wp2
        go_ret
        exact ⟨retb HR.out, bdrew HB.out n⟩
end Go.Proofs.YtgbladpoglhleaaGreatDoor
