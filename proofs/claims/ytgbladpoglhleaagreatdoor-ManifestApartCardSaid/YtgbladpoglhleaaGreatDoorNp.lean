/- The document's Ours. No condition. -/
import Derived.Test.YtgbladpoglhleaaGreatDoorNo
namespace Go.Proofs.YtgbladpoglhleaaGreatDoor
open Go.RowKit Go.Lib
def bManifest : List UInt8 := [109, 97, 110, 105, 102, 101, 115, 116]
def bCore : List UInt8 := [99, 111, 114, 101]
def bOrder : List UInt8 := [111, 114, 100, 101, 114]
def bNest : List UInt8 := [110, 101, 115, 116]
def bCkpt : List UInt8 := [99, 107, 112, 116]
/-- A name of the engine's, by its word, how many parts it has, and whether the others are numbers. -/
def oursW (x : List UInt8) (n : Nat) (all : Bool) : Bool :=
  if x = bManifest then n == 1 else if x = bCore ∨ x = bOrder ∨ x = bNest ∨ x = bCkpt then n == 2 && all else if x = [115] then n == 3 && all else if x = [120] then (n == 3 || n == 4) && all else if x = [116] then decide (2 ≤ n) else false
def oursF (l : List UInt8) : Bool := oursW ((split46 l).headD []) (split46 l).length (allNum (split46 l).tail)
theorem Sl.tail {w : World} {ok : Nat → Prop} {b o n c : Nat} {x : List UInt8} {xs : List (List UInt8)} (h : Sl kstr w ok (.slice (some ⟨b, o, none⟩) n c) (x :: xs)) : Sl kstr w ok (.slice (some ⟨b, o + 1, none⟩) xs.length (c - 1)) xs := by
  obtain ⟨A, c', e, h1, h2, h3⟩ := h
  cases e
  obtain ⟨b', o', e, k1, k2, k3⟩ := h3 (by simp)
  cases e
  refine ⟨_, c - 1, rfl, by simp at h1; omega, by omega, fun _ => ⟨b, o + 1, rfl, k1, k2, fun i y hy => ?_⟩⟩
  obtain ⟨cs, r, q⟩ := k3 (i + 1) y (by simpa using hy)
  refine ⟨cs, r, fun j u hu => ?_⟩
  have := q j u hu
  have e : o + (i + 1) * kstr.sz + j = o + 1 + i * kstr.sz + j := by
    show o + (i + 1) * 1 + j = o + 1 + i * 1 + j
    omega
  rw [e] at this
  exact this
set_option maxHeartbeats 4000000 in
set_option maxRecDepth 100000 in
theorem refOurs_any {w : World} (s : ByteArray) (hs : s.size ≤ 4096) : Calls Tryz.prog 11 #[.string s] w fun e w' => e = .returned (.bool (oursF s.data.toList)) ∧ Below w.heap.size w w' := by
  have hcall := parts_any (w := w) s hs
  go_enter Tryz.func11, Tryz.ntmps11
  go_wp2_with fail
  refine hcall.mono ?_
  clear hcall
  rintro e w1 ⟨v, rfl, ho, B1⟩
  have HF : Aside (oursF s.data.toList = oursW ((split46 s.data.toList).headD []) (split46 s.data.toList).length (allNum (split46 s.data.toList).tail)) := ⟨rfl⟩
  have hsl := (own_strs ho).sl
  cases hsp : split46 s.data.toList with
  | nil => exact absurd hsp (split46_ne _)
  | cons x xs =>
    rw [hsp] at hsl HF
    clear ho hsp
    obtain ⟨A, c, rfl, hc, hm, h3⟩ := id hsl
    obtain ⟨b, o, rfl, -, -, -⟩ := h3 (by simp)
    have k0 := (hsl.str 0 (by simp))
    obtain ⟨b', o', e, k0⟩ := k0
    cases e
    have ht := hsl.tail
    have HB := Aside.mk B1
    have hxs : xs.length + 1 ≤ c := hc
    clear B1 h3 hsl hc
    obtain ⟨w2, rfl⟩ : ∃ w2, w2 = w1 := ⟨_, rfl⟩
    simp only [List.getElem_cons_zero, Nat.add_zero, List.length_cons] at k0 ⊢
    obtain ⟨all, hall⟩ : ∃ all, all = allNum xs := ⟨_, rfl⟩
    rw [List.headD_cons, List.length_cons, List.tail_cons, ← hall] at HF
    go_upto_region 2 with (fail)
    go_cut [4] (fun v4 wx => v4 = .bool all ∧ Same w2 wx)
    case first =>
      by_cases hc1 : c = 1
      · have hnil : xs = [] := List.eq_nil_of_length_eq_zero (by omega)
        subst hnil
        subst hc1
        have hnum := numbers_any (v := .slice (some ⟨b, o, none⟩) 0 0) (xs := []) (w := w2) (ok := fun _ => True) ⟨_, 0, rfl, Nat.le_refl _, by decide, fun h => absurd h (Nat.lt_irrefl 0)⟩
        clear ht
        go_wp2_with fail
        refine hnum.mono ?_
        rintro e w3 ⟨rfl, S⟩
        rw [← hall]
        clear hall
        go_wp2
        go_meet
        case rel => exact ⟨rfl, S⟩
      · have hnum := numbers_any ht
        have h1 : (1 == c) = false := beq_false_of_ne (Ne.symm hc1)
        have h2 : (c == 1) = false := beq_false_of_ne hc1
        have h3 : ¬ (1 = c) := Ne.symm hc1
        clear ht
        go_wp2_with fail
        refine hnum.mono ?_
        rintro e w3 ⟨rfl, S⟩
        rw [← hall]
        clear hall
        go_wp2
        go_meet
        case rel => exact ⟨rfl, S⟩
    case rest =>
      obtain ⟨rfl, S⟩ := hcut
      obtain ⟨⟨n, rfl⟩⟩ := S
      have HB2 := Aside.mk fun n => bdrew HB.out n
      clear ht hall HB
      have hxs2 : xs.length + 1 ≤ 9223372036854775807 := by omega
      have hw : x = [109, 97, 110, 105, 102, 101, 115, 116] ∨ x = [99, 111, 114, 101] ∨ x = [111, 114, 100, 101, 114] ∨ x = [110, 101, 115, 116] ∨ x = [99, 107, 112, 116] ∨ x = [115] ∨ x = [120] ∨ x = [116] ∨ ((x == [109, 97, 110, 105, 102, 101, 115, 116]) = false ∧ (x == [99, 111, 114, 101]) = false ∧ (x == [111, 114, 100, 101, 114]) = false ∧ (x == [110, 101, 115, 116]) = false ∧ (x == [99, 107, 112, 116]) = false ∧ (x == [115]) = false ∧ (x == [120]) = false ∧ (x == [116]) = false) := by
        by_cases a0 : x = [109, 97, 110, 105, 102, 101, 115, 116]
        · exact .inl a0
        · by_cases a1 : x = [99, 111, 114, 101]
          · exact .inr (.inl a1)
          · by_cases a2 : x = [111, 114, 100, 101, 114]
            · exact .inr (.inr (.inl a2))
            · by_cases a3 : x = [110, 101, 115, 116]
              · exact .inr (.inr (.inr (.inl a3)))
              · by_cases a4 : x = [99, 107, 112, 116]
                · exact .inr (.inr (.inr (.inr (.inl a4))))
                · by_cases a5 : x = [115]
                  · exact .inr (.inr (.inr (.inr (.inr (.inl a5)))))
                  · by_cases a6 : x = [120]
                    · exact .inr (.inr (.inr (.inr (.inr (.inr (.inl a6))))))
                    · by_cases a7 : x = [116]
                      · exact .inr (.inr (.inr (.inr (.inr (.inr (.inr (.inl a7)))))))
                      · exact .inr (.inr (.inr (.inr (.inr (.inr (.inr (.inr (⟨beq_false_of_ne a0, beq_false_of_ne a1, beq_false_of_ne a2, beq_false_of_ne a3, beq_false_of_ne a4, beq_false_of_ne a5, beq_false_of_ne a6, beq_false_of_ne a7⟩))))))))
      have hl : (((xs.length : Int) + 1 == 1) = true ∧ ((xs.length : Int) + 1 == 2) = false ∧ ((xs.length : Int) + 1 == 3) = false ∧ ((xs.length : Int) + 1 == 4) = false ∧ xs.length = 0) ∨ (((xs.length : Int) + 1 == 1) = false ∧ ((xs.length : Int) + 1 == 2) = true ∧ ((xs.length : Int) + 1 == 3) = false ∧ ((xs.length : Int) + 1 == 4) = false ∧ xs.length = 1) ∨ (((xs.length : Int) + 1 == 1) = false ∧ ((xs.length : Int) + 1 == 2) = false ∧ ((xs.length : Int) + 1 == 3) = true ∧ ((xs.length : Int) + 1 == 4) = false ∧ xs.length = 2) ∨ (((xs.length : Int) + 1 == 1) = false ∧ ((xs.length : Int) + 1 == 2) = false ∧ ((xs.length : Int) + 1 == 3) = false ∧ ((xs.length : Int) + 1 == 4) = true ∧ xs.length = 3) ∨ (((xs.length : Int) + 1 == 1) = false ∧ ((xs.length : Int) + 1 == 2) = false ∧ ((xs.length : Int) + 1 == 3) = false ∧ ((xs.length : Int) + 1 == 4) = false ∧ 3 < xs.length) := by
        rcases (by omega : xs.length = 0 ∨ xs.length = 1 ∨ xs.length = 2 ∨ xs.length = 3 ∨ 3 < xs.length) with h | h | h | h | h
        · exact .inl ⟨beq_iff_eq.2 (by omega), beq_false_of_ne (by omega), beq_false_of_ne (by omega), beq_false_of_ne (by omega), h⟩
        · exact .inr (.inl ⟨beq_false_of_ne (by omega), beq_iff_eq.2 (by omega), beq_false_of_ne (by omega), beq_false_of_ne (by omega), h⟩)
        · exact .inr (.inr (.inl ⟨beq_false_of_ne (by omega), beq_false_of_ne (by omega), beq_iff_eq.2 (by omega), beq_false_of_ne (by omega), h⟩))
        · exact .inr (.inr (.inr (.inl ⟨beq_false_of_ne (by omega), beq_false_of_ne (by omega), beq_false_of_ne (by omega), beq_iff_eq.2 (by omega), h⟩)))
        · exact .inr (.inr (.inr (.inr (⟨beq_false_of_ne (by omega), beq_false_of_ne (by omega), beq_false_of_ne (by omega), beq_false_of_ne (by omega), h⟩))))
      have hl2 : (xs.length = 0 ∧ decide ((2 : Int) ≤ (xs.length : Int) + 1) = false) ∨ (0 < xs.length ∧ decide ((2 : Int) ≤ (xs.length : Int) + 1) = true) := by
        rcases Nat.eq_zero_or_pos xs.length with h | h
        · exact .inl ⟨h, decide_eq_false (by omega)⟩
        · exact .inr ⟨h, decide_eq_true (by omega)⟩
      rcases hw with rfl | rfl | rfl | rfl | rfl | rfl | rfl | rfl | ⟨n0, n1, n2, n3, n4, n5, n6, n7⟩
      · clear hl2
        rcases hl with ⟨e1, e2, e3, e4, q⟩ | ⟨e1, e2, e3, e4, q⟩ | ⟨e1, e2, e3, e4, q⟩ | ⟨e1, e2, e3, e4, q⟩ | ⟨e1, e2, e3, e4, q⟩ <;> (have HQ := Aside.mk q; clear q; go_wp2; go_ret; exact ⟨retb (by have q := HQ.out; rw [HF.out]; first | (simp [oursW, bManifest, bCore, bOrder, bNest, bCkpt, q]; done) | (have h1 : ¬ xs.length = 0 := (by omega); have h2 : ¬ xs.length = 1 := (by omega); have h3 : ¬ xs.length = 2 := (by omega); have h4 : ¬ xs.length = 3 := (by omega); simp [oursW, bManifest, bCore, bOrder, bNest, bCkpt, h1, h2, h3, h4]; done)), HB2.out _⟩)
      · clear hl2
        rcases hl with ⟨e1, e2, e3, e4, q⟩ | ⟨e1, e2, e3, e4, q⟩ | ⟨e1, e2, e3, e4, q⟩ | ⟨e1, e2, e3, e4, q⟩ | ⟨e1, e2, e3, e4, q⟩ <;> (have HQ := Aside.mk q; clear q; go_wp2; go_ret; exact ⟨retb (by have q := HQ.out; rw [HF.out]; first | (simp [oursW, bManifest, bCore, bOrder, bNest, bCkpt, q]; done) | (have h1 : ¬ xs.length = 0 := (by omega); have h2 : ¬ xs.length = 1 := (by omega); have h3 : ¬ xs.length = 2 := (by omega); have h4 : ¬ xs.length = 3 := (by omega); simp [oursW, bManifest, bCore, bOrder, bNest, bCkpt, h1, h2, h3, h4]; done)), HB2.out _⟩)
      · clear hl2
        rcases hl with ⟨e1, e2, e3, e4, q⟩ | ⟨e1, e2, e3, e4, q⟩ | ⟨e1, e2, e3, e4, q⟩ | ⟨e1, e2, e3, e4, q⟩ | ⟨e1, e2, e3, e4, q⟩ <;> (have HQ := Aside.mk q; clear q; go_wp2; go_ret; exact ⟨retb (by have q := HQ.out; rw [HF.out]; first | (simp [oursW, bManifest, bCore, bOrder, bNest, bCkpt, q]; done) | (have h1 : ¬ xs.length = 0 := (by omega); have h2 : ¬ xs.length = 1 := (by omega); have h3 : ¬ xs.length = 2 := (by omega); have h4 : ¬ xs.length = 3 := (by omega); simp [oursW, bManifest, bCore, bOrder, bNest, bCkpt, h1, h2, h3, h4]; done)), HB2.out _⟩)
      · clear hl2
        rcases hl with ⟨e1, e2, e3, e4, q⟩ | ⟨e1, e2, e3, e4, q⟩ | ⟨e1, e2, e3, e4, q⟩ | ⟨e1, e2, e3, e4, q⟩ | ⟨e1, e2, e3, e4, q⟩ <;> (have HQ := Aside.mk q; clear q; go_wp2; go_ret; exact ⟨retb (by have q := HQ.out; rw [HF.out]; first | (simp [oursW, bManifest, bCore, bOrder, bNest, bCkpt, q]; done) | (have h1 : ¬ xs.length = 0 := (by omega); have h2 : ¬ xs.length = 1 := (by omega); have h3 : ¬ xs.length = 2 := (by omega); have h4 : ¬ xs.length = 3 := (by omega); simp [oursW, bManifest, bCore, bOrder, bNest, bCkpt, h1, h2, h3, h4]; done)), HB2.out _⟩)
      · clear hl2
        rcases hl with ⟨e1, e2, e3, e4, q⟩ | ⟨e1, e2, e3, e4, q⟩ | ⟨e1, e2, e3, e4, q⟩ | ⟨e1, e2, e3, e4, q⟩ | ⟨e1, e2, e3, e4, q⟩ <;> (have HQ := Aside.mk q; clear q; go_wp2; go_ret; exact ⟨retb (by have q := HQ.out; rw [HF.out]; first | (simp [oursW, bManifest, bCore, bOrder, bNest, bCkpt, q]; done) | (have h1 : ¬ xs.length = 0 := (by omega); have h2 : ¬ xs.length = 1 := (by omega); have h3 : ¬ xs.length = 2 := (by omega); have h4 : ¬ xs.length = 3 := (by omega); simp [oursW, bManifest, bCore, bOrder, bNest, bCkpt, h1, h2, h3, h4]; done)), HB2.out _⟩)
      · clear hl2
        rcases hl with ⟨e1, e2, e3, e4, q⟩ | ⟨e1, e2, e3, e4, q⟩ | ⟨e1, e2, e3, e4, q⟩ | ⟨e1, e2, e3, e4, q⟩ | ⟨e1, e2, e3, e4, q⟩ <;> (have HQ := Aside.mk q; clear q; go_wp2; go_ret; exact ⟨retb (by have q := HQ.out; rw [HF.out]; first | (simp [oursW, bManifest, bCore, bOrder, bNest, bCkpt, q]; done) | (have h1 : ¬ xs.length = 0 := (by omega); have h2 : ¬ xs.length = 1 := (by omega); have h3 : ¬ xs.length = 2 := (by omega); have h4 : ¬ xs.length = 3 := (by omega); simp [oursW, bManifest, bCore, bOrder, bNest, bCkpt, h1, h2, h3, h4]; done)), HB2.out _⟩)
      · clear hl2
        rcases hl with ⟨e1, e2, e3, e4, q⟩ | ⟨e1, e2, e3, e4, q⟩ | ⟨e1, e2, e3, e4, q⟩ | ⟨e1, e2, e3, e4, q⟩ | ⟨e1, e2, e3, e4, q⟩ <;> (have HQ := Aside.mk q; clear q; go_wp2; go_ret; exact ⟨retb (by have q := HQ.out; rw [HF.out]; first | (simp [oursW, bManifest, bCore, bOrder, bNest, bCkpt, q]; done) | (have h1 : ¬ xs.length = 0 := (by omega); have h2 : ¬ xs.length = 1 := (by omega); have h3 : ¬ xs.length = 2 := (by omega); have h4 : ¬ xs.length = 3 := (by omega); simp [oursW, bManifest, bCore, bOrder, bNest, bCkpt, h1, h2, h3, h4]; done)), HB2.out _⟩)
      · clear hl
        rcases hl2 with ⟨q, e2⟩ | ⟨q, e2⟩
        · have HR : Aside (oursF s.data.toList = false) := ⟨by rw [HF.out]; unfold oursW; rw [if_neg (by decide), if_neg (by decide), if_neg (by decide), if_neg (by decide), if_pos rfl]; exact decide_eq_false (by omega)⟩
          clear q
          go_wp2
          go_ret
          exact ⟨retb HR.out, HB2.out _⟩
        · have HR : Aside (oursF s.data.toList = true) := ⟨by rw [HF.out]; unfold oursW; rw [if_neg (by decide), if_neg (by decide), if_neg (by decide), if_neg (by decide), if_pos rfl]; exact decide_eq_true (by omega)⟩
          clear q
          go_wp2
          go_ret
          exact ⟨retb HR.out, HB2.out _⟩
      · clear hl hl2
        have HR : Aside (oursF s.data.toList = false) := ⟨by
          rw [HF.out]
          simp only [beq_eq_false_iff_ne, ne_eq] at n0 n1 n2 n3 n4 n5 n6 n7
          simp [oursW, bManifest, bCore, bOrder, bNest, bCkpt, n0, n1, n2, n3, n4, n5, n6, n7]⟩
        go_wp2
        go_ret
        exact ⟨retb HR.out, HB2.out _⟩end Go.Proofs.YtgbladpoglhleaaGreatDoor
