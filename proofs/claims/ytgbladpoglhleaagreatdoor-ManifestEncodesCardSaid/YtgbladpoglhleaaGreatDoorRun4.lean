/- The evaluator's operations beside the model's: those on values; maps; iterators. No condition. -/
import Derived.Test.YtgbladpoglhleaaGreatDoorRun3
namespace Go.Proofs.YtgbladpoglhleaaGreatDoor
namespace Ex
section
variable {P : Program} {ro : Nat} {κ : K} {h : Hp} {w : World}
theorem cval_inv {s : Sem Value} {v : Value} (e : cval? P s = some v) : val? P s = some v ∧ closed v = true := by
  unfold cval? at e
  cases hv : val? P s with
  | none => rw [hv] at e; cases e
  | some u =>
    rw [hv] at e
    simp only at e
    split at e
    · rename_i hc; cases e; exact ⟨rfl, hc⟩
    · cases e
theorem cval_run {s : Sem Value} {v : Value} (e : cval? P s = some v) (κ : K) (w : World) : s.run P w = .ok v w ∧ VR κ v v := by
  obtain ⟨a, b⟩ := cval_inv e
  exact ⟨val?_run w s v a, VR.of_closed κ 4 v b⟩
theorem sbound_ok {y d n : Nat} {x x' : Option Value} (r : match x, x' with | none, none => True | some a, some b => VR κ a b | _, _ => False) (e : sbound y x d = some n) (code : BoundsCode) :
    (x = none ∧ x' = none ∧ n = d) ∨ ∃ v v', x = some v ∧ x' = some v' ∧ n ≤ y ∧ ∀ (y' : Nat) (w : World), n ≤ y' → (Instr.sliceBound v' y' code).run P w = .ok n w := by
  cases x with
  | none =>
    cases x' with
    | none => simp only [sbound, Option.some.injEq] at e; exact .inl ⟨rfl, rfl, e.symm⟩
    | some b => exact r.elim
  | some a =>
    cases x' with
    | none => exact r.elim
    | some b =>
      simp only at r
      cases r with
      | int k i =>
        simp only [sbound] at e
        split at e
        · rename_i hb
          simp only [Option.some.injEq] at e
          refine .inr ⟨_, _, rfl, rfl, by omega, fun y' w hy => ?_⟩
          have : 0 ≤ i ∧ i ≤ (y' : Int) := by omega
          simp only [Instr.sliceBound, Sem.run_bind, asIntOf, Sem.run_pure, Result.andThen_ok, this, and_self, if_true, e]
        · cases e
      | _ => simp [sbound] at e
def OptR (κ : K) (x x' : Option Value) : Prop := match x, x' with | none, none => True | some a, some b => VR κ a b | _, _ => False
theorem bounds_ok {isSlice : Bool} {len cap cap' : Nat} {lo hi mx lo' hi' mx' : Option Value} {l hh m : Nat} (hcap : mx = none → m = cap) (hle : cap ≤ cap')
    (rl : OptR κ lo lo') (rh : OptR κ hi hi') (rm : OptR κ mx mx') (em : sbound cap mx cap = some m) (eh : sbound m hi len = some hh) (el : sbound hh lo 0 = some l)
    (hx : (mx.isSome && hi.isNone) = false) (w : World) :
    (Instr.sliceBounds isSlice len cap' lo' hi' mx').run P w = .ok (l, hh, if mx.isSome then m else cap') w := by
  unfold Instr.sliceBounds
  rcases sbound_ok (P := P) rm em (if isSlice then .slice3Acap else .slice3Alen) with ⟨rfl, rfl, em'⟩ | ⟨vm, vm', rfl, rfl, hmc, hm⟩
  · rcases sbound_ok (P := P) rh eh (if isSlice then .sliceAcap else .sliceAlen) with ⟨rfl, rfl, eh'⟩ | ⟨vh, vh', rfl, rfl, hhm, hh'⟩
    · rcases sbound_ok (P := P) rl el .sliceB with ⟨rfl, rfl, el'⟩ | ⟨vl, vl', rfl, rfl, hlh, hl⟩
      · simp [eh', el']
      · simp [← eh', hl hh w hlh]
    · rcases sbound_ok (P := P) rl el .sliceB with ⟨rfl, rfl, el'⟩ | ⟨vl, vl', rfl, rfl, hlh, hl⟩
      · simp [el', hh' cap' w (by omega)]
      · simp [hh' cap' w (by omega), hl hh w hlh]
  · rcases sbound_ok (P := P) rh eh .slice3B with ⟨rfl, rfl, eh'⟩ | ⟨vh, vh', rfl, rfl, hhm, hh'⟩
    · simp at hx
    · rcases sbound_ok (P := P) rl el .slice3C with ⟨rfl, rfl, el'⟩ | ⟨vl, vl', rfl, rfl, hlh, hl⟩
      · simp [el', hm cap' w (by omega), hh' m w (by omega)]
      · simp [hm cap' w (by omega), hh' m w (by omega), hl hh w hlh]
theorem sbound_le {y d n : Nat} {x : Option Value} (e : sbound y x d = some n) : (x = none ∧ n = d) ∨ (x ≠ none ∧ n ≤ y) := by
  cases x with
  | none => simp only [sbound, Option.some.injEq] at e; exact .inl ⟨rfl, e.symm⟩
  | some a =>
    cases a with
    | int k i =>
      simp only [sbound] at e
      split at e
      · simp only [Option.some.injEq] at e; exact .inr ⟨by simp, by omega⟩
      · cases e
    | _ => simp [sbound] at e
theorem sbounds_le {cap len l hh m : Nat} {lo hi mx : Option Value} (em : sbound cap mx cap = some m) (eh : sbound m hi len = some hh) (el : sbound hh lo 0 = some l)
    (hx : ¬(mx.isSome && hi.isNone) = true) (hl : len ≤ cap) : m ≤ cap ∧ hh ≤ m ∧ l ≤ hh ∧ (mx = none → m = cap) := by
  have hm : m ≤ cap ∧ (mx = none → m = cap) := by
    rcases sbound_le em with ⟨a, b⟩ | ⟨a, b⟩
    · exact ⟨by omega, fun _ => b⟩
    · exact ⟨b, fun e => absurd e a⟩
  have h2 : hh ≤ m := by
    rcases sbound_le eh with ⟨a, b⟩ | ⟨a, b⟩
    · have : mx = none := by
        cases mx with
        | none => rfl
        | some x => subst a; simp at hx
      have := hm.2 this
      omega
    · exact b
  have h3 : l ≤ hh := by
    rcases sbound_le el with ⟨_, b⟩ | ⟨_, b⟩ <;> omega
  exact ⟨hm.1, h2, h3, hm.2⟩
theorem vr_sliced {b off off' c l hh m m' size : Nat} (hd : κ.dom b) (hs : (c % 2 = 0 ∧ m' = m ∧ off' = off) ∨ (c % 2 = 1 ∧ m ≤ m' ∧ off' = off ∧ off' + m' * κ.s b ≤ κ.n b ∧ size = κ.s b))
    (h1 : hh ≤ m) (h2 : l ≤ hh) :
    VR κ (.slice (some (if m = l then ⟨b, off, none⟩ else ⟨b, off + l * size, none⟩)) (hh - l) (2 * (m - l) + c % 2))
      (.slice (some (if m' = l then ⟨κ.p b, off', none⟩ else (⟨κ.p b, off', none⟩ : Addr).add (l * size))) (hh - l) (m' - l)) := by
  have e1 : (if m = l then (⟨b, off, none⟩ : Addr) else ⟨b, off + l * size, none⟩) = ⟨b, if m = l then off else off + l * size, none⟩ := by split <;> rfl
  have e2 : (if m' = l then (⟨κ.p b, off', none⟩ : Addr) else (⟨κ.p b, off', none⟩ : Addr).add (l * size)) = ⟨κ.p b, if m' = l then off' else off' + l * size, none⟩ := by
    split
    · rfl
    · rw [addr_add]
  rw [e1, e2]
  refine .slice _ _ _ _ _ _ hd ⟨by omega, ?_⟩
  rcases hs with ⟨hc, rfl, rfl⟩ | ⟨hc, hm, rfl, hb, rfl⟩
  · exact .inl ⟨by omega, by omega, rfl⟩
  · refine .inr ⟨by omega, by omega, fun hp => ?_, ?_⟩
    · rw [if_neg (by omega), if_neg (by omega)]
    · have key : l * κ.s b + (m' - l) * κ.s b = m' * κ.s b := by rw [← Nat.add_mul]; congr 1; omega
      split
      · rename_i e; have : m' - l = 0 := by omega
        rw [this]; omega
      · omega
theorem aslice_ok (H : HR P κ h.m w) {t : TypeId} {x x' v : Value} {lo lo' hi hi' mx mx' : Option Value} (r : VR κ x x') (rl : OptR κ lo lo') (rh : OptR κ hi hi') (rm : OptR κ mx mx')
    (e : aslice P h t x lo hi mx = some v) : ∃ v', (Instr.sliceAt t x' lo' hi' mx').run P w = .ok v' w ∧ VR κ v v' := by
  unfold aslice at e
  simp only [Option.bind_eq_bind] at e
  obtain ⟨d, hd, e⟩ := Option.bind_eq_some_iff.1 e
  split at e
  · rename_i n elem b off _
    obtain ⟨m, em, e⟩ := Option.bind_eq_some_iff.1 e
    obtain ⟨hh, eh, e⟩ := Option.bind_eq_some_iff.1 e
    obtain ⟨l, el, e⟩ := Option.bind_eq_some_iff.1 e
    obtain ⟨size, hs, e⟩ := Option.bind_eq_some_iff.1 e
    split at e
    · cases e
    · rename_i hx
      simp only [Option.some.injEq] at e; subst e
      cases r with
      | ptr _ _ hdb =>
        obtain ⟨h1, h2, h3, h4⟩ := sbounds_le em eh el hx (Nat.le_refl n)
        have hb := bounds_ok (P := P) (isSlice := false) h4 (Nat.le_refl n) rl rh rm em eh el (by simpa only [Bool.not_eq_true] using hx) w
        have hm : (if mx.isSome = true then m else n) = m := by
          cases mx with
          | none => simp; exact (h4 rfl).symm
          | some x => simp
        rw [hm] at hb
        refine ⟨_, by simp only [Instr.sliceAt, Sem.run_bind, run_underlying hd, Result.andThen_ok, Instr.sureAddr, Sem.run_pure, hb, r_size hs]; rfl, ?_⟩
        exact vr_sliced (c := 0) hdb (.inl ⟨rfl, rfl, rfl⟩) h2 h3
  · rename_i elem b off len c _
    obtain ⟨m, em, e⟩ := Option.bind_eq_some_iff.1 e
    obtain ⟨hh, eh, e⟩ := Option.bind_eq_some_iff.1 e
    obtain ⟨l, el, e⟩ := Option.bind_eq_some_iff.1 e
    obtain ⟨size, hs, e⟩ := Option.bind_eq_some_iff.1 e
    split at e
    · cases e
    · rename_i hx
      split at e
      · cases e
      · rename_i hu
        simp only [Option.some.injEq] at e; subst e
        cases r with
        | slice _ _ _ _ off' cap' hdb hsl =>
          obtain ⟨hlen, hsl⟩ := hsl
          obtain ⟨h1, h2, h3, h4⟩ := sbounds_le em eh el hx hlen
          have hcc : c / 2 ≤ cap' := by rcases hsl with ⟨_, a, _⟩ | ⟨_, a, _⟩ <;> omega
          have hb := bounds_ok (P := P) (isSlice := true) h4 hcc rl rh rm em eh el (by simpa only [Bool.not_eq_true] using hx) w
          refine ⟨_, by simp only [Instr.sliceAt, Instr.slice, Sem.run_bind, run_underlying hd, Result.andThen_ok, Sem.run_pure, hb, r_size hs]; rfl, ?_⟩
          have hsm : ∀ m', (if m' = l then some (⟨κ.p b, off', none⟩ : Addr) else Option.map (fun x : Addr => x.add (l * size)) (some (⟨κ.p b, off', none⟩ : Addr))) = some (if m' = l then ⟨κ.p b, off', none⟩ else (⟨κ.p b, off', none⟩ : Addr).add (l * size)) := by
            intro m'; split <;> rfl
          rw [hsm]
          cases mx with
          | some x =>
            simp only [Option.isSome_some, if_true]
            rcases hsl with ⟨hc, hcap, ho⟩ | ⟨hc, hcap, ho, hbnd⟩
            · exact vr_sliced (c := 0) hdb (.inl ⟨rfl, rfl, ho⟩) h2 h3
            · have hpos : c / 2 ≠ 0 := by
                intro q; apply hu; simp [hc, q]
              exact vr_sliced (c := 0) hdb (.inl ⟨rfl, rfl, ho (by omega)⟩) h2 h3
          | none =>
            simp only [Option.isSome_none, Bool.false_eq_true, if_false]
            rcases hsl with ⟨hc, hcap, ho⟩ | ⟨hc, hcap, ho, hbnd⟩
            · exact vr_sliced (c := c) hdb (.inl ⟨hc, by rw [hcap, h4 rfl], ho⟩) h2 h3
            · have hu' : ¬(c / 2 = 0) ∧ elemIs h b elem = true := by
                constructor
                · intro q; apply hu; simp [hc, q]
                · cases hq : elemIs h b elem with
                  | true => rfl
                  | false => exact absurd (by simp [hc, hq]) hu
              have hsz : size = κ.s b := by
                have := hu'.2
                unfold elemIs at this
                split at this
                · rename_i cc tt fr hob
                  have htt : tt = elem := by simpa using this
                  obtain ⟨_, o', _, hor⟩ := H.obj b _ hob
                  cases hor with
                  | cells _ _ _ _ _ _ _ hss _ _ => rw [htt] at hss; exact hss size hs
                · cases this
              exact vr_sliced (c := c) hdb (.inr ⟨hc, by rw [h4 rfl]; exact hcap, ho (by omega), hbnd, hsz⟩) h2 h3
  · rename_i elem _
    obtain ⟨m, em, e⟩ := Option.bind_eq_some_iff.1 e
    obtain ⟨hh, eh, e⟩ := Option.bind_eq_some_iff.1 e
    obtain ⟨l, el, e⟩ := Option.bind_eq_some_iff.1 e
    obtain ⟨size, hs, e⟩ := Option.bind_eq_some_iff.1 e
    split at e
    · cases e
    · rename_i hx
      simp only [Option.some.injEq] at e; subst e
      cases r with
      | sliceNil =>
        obtain ⟨h1, h2, h3, h4⟩ := sbounds_le em eh el hx (Nat.le_refl 0)
        have hb := bounds_ok (P := P) (isSlice := true) h4 (Nat.le_refl 0) rl rh rm em eh el (by simpa only [Bool.not_eq_true] using hx) w
        have em0 : m = 0 := by omega
        have eh0 : hh = 0 := by omega
        have el0 : l = 0 := by omega
        subst em0; subst eh0; subst el0
        refine ⟨.slice none 0 0, ?_, .sliceNil⟩
        simp only [Instr.sliceAt, Instr.slice, Sem.run_bind, run_underlying hd, Result.andThen_ok, Sem.run_pure, hb, r_size hs]
        cases mx <;> rfl
  · rename_i x1 x2 x3
    split at e
    · rename_i hc
      obtain ⟨hrun, hv⟩ := cval_run e κ w
      simp only [Bool.and_eq_true] at hc
      have hx := r.closed hc.1.1.1
      have opt : ∀ {a a' : Option Value}, OptR κ a a' → a.elim true closed = true → a' = a := by
        intro a a' ra hca
        cases a with
        | none => cases a' with
          | none => rfl
          | some _ => exact ra.elim
        | some a => cases a' with
          | none => exact ra.elim
          | some b => rw [VR.closed ra hca]
      rw [hx, opt rl hc.1.1.2, opt rh hc.1.2, opt rm hc.2]
      exact ⟨v, hrun, hv⟩
    · cases e
end
end Ex
end Go.Proofs.YtgbladpoglhleaaGreatDoor
