/- Regions whose order is drawn: whatever order is drawn, the machine comes to the same state. -/
import Derived.Test.YtjffpbodflkehaaGreatDoorOVmRel
set_option linter.unusedVariables false
set_option linter.unusedSimpArgs false
namespace Go.Vm

/-! ### Lists -/
theorem setT_comm (l : List V) : ∀ (n m : Nat) (x y : V), n ≠ m → setT (setT l n x) m y = setT (setT l m y) n x := by
  induction l with
  | nil =>
    intro n
    induction n with
    | zero => intro m x y h; cases m with
      | zero => exact absurd rfl h
      | succ m => simp [setT_nil_zero, setT_nil_succ, setT_zero, setT_succ]
    | succ n ih => intro m x y h; cases m with
      | zero => simp [setT_nil_zero, setT_nil_succ, setT_zero, setT_succ]
      | succ m => simp only [setT_nil_zero, setT_nil_succ, setT_zero, setT_succ]; rw [ih m x y (by omega)]
  | cons z l ih =>
    intro n m x y h
    cases n with
    | zero => cases m with
      | zero => exact absurd rfl h
      | succ m => simp [setT_nil_zero, setT_nil_succ, setT_zero, setT_succ]
    | succ n => cases m with
      | zero => simp [setT_nil_zero, setT_nil_succ, setT_zero, setT_succ]
      | succ m => simp only [setT_nil_zero, setT_nil_succ, setT_zero, setT_succ]; rw [ih n m x y (by omega)]
theorem setB_comm (l : List Blk) : ∀ (n m : Nat) (x y : Blk), n ≠ m → setB (setB l n x) m y = setB (setB l m y) n x := by
  induction l with
  | nil =>
    intro n
    induction n with
    | zero => intro m x y h; cases m with
      | zero => exact absurd rfl h
      | succ m => simp [setB]
    | succ n ih => intro m x y h; cases m with
      | zero => simp [setB]
      | succ m => simp only [setB]; rw [ih m x y (by omega)]
  | cons z l ih =>
    intro n m x y h
    cases n with
    | zero => cases m with
      | zero => exact absurd rfl h
      | succ m => simp [setB]
    | succ n => cases m with
      | zero => simp [setB]
      | succ m => simp only [setB]; rw [ih n m x y (by omega)]
theorem setB_len (l : List Blk) : ∀ (n : Nat) (x : Blk), n < l.length → (setB l n x).length = l.length := by
  induction l with
  | nil => intro n x h; simp at h
  | cons z l ih => intro n x h; cases n with
    | zero => simp [setB]
    | succ n => simp only [setB, List.length_cons]; rw [ih n x (by simpa using h)]
theorem ext_getB : ∀ {l r : List Blk}, l.length = r.length → (∀ n, n < l.length → getB l n = getB r n) → l = r
  | [], [], _, _ => rfl
  | x :: l, y :: r, hl, h => by
    have h0 := h 0 (by simp)
    simp only [getB] at h0
    rw [h0, ext_getB (l := l) (r := r) (by simpa using hl) (fun n hn => by simpa [getB] using h (n + 1) (by simpa using hn))]
theorem hide_len (hid : List Nat) : ∀ (l : List Blk) (i : Nat), (hide hid i l).length = l.length
  | [], _ => rfl
  | _ :: l, i => by simp [hide, hide_len hid l]
theorem unhide_len (hid : List Nat) (H : List Blk) : ∀ (l : List Blk) (i : Nat), (unhide hid H i l).length = l.length
  | [], _ => rfl
  | _ :: l, i => by simp [unhide, unhide_len hid H l]
theorem getB_hide (hid : List Nat) : ∀ (l : List Blk) (i n : Nat), n < l.length → getB (hide hid i l) n = if hid.contains (i + n) then .gone else getB l n
  | [], _, _, h => by simp at h
  | _ :: l, i, 0, _ => by simp [hide, getB]
  | _ :: l, i, n + 1, h => by
    simp only [hide, getB]
    rw [getB_hide hid l (i + 1) n (by simpa using h), show i + 1 + n = i + (n + 1) by omega]
theorem getB_unhide (hid : List Nat) (H : List Blk) : ∀ (l : List Blk) (i n : Nat), n < l.length → getB (unhide hid H i l) n = if hid.contains (i + n) then getB H (i + n) else getB l n
  | [], _, _, h => by simp at h
  | _ :: l, i, 0, _ => by simp [unhide, getB]
  | _ :: l, i, n + 1, h => by
    simp only [unhide, getB]
    rw [getB_unhide hid H l (i + 1) n (by simpa using h), show i + 1 + n = i + (n + 1) by omega]
theorem hide_set {hid : List Nat} {H : List Blk} {c : Nat} {z : Blk} (hc : hid.contains c = true) (hl : c < H.length) : hide hid 0 (setB H c z) = hide hid 0 H := by
  refine ext_getB (by rw [hide_len, hide_len, setB_len _ _ _ hl]) fun n hn => ?_
  rw [hide_len] at hn
  rw [getB_hide _ _ _ _ hn, getB_hide _ _ _ _ (by rwa [setB_len _ _ _ hl] at hn), getB_setB]
  split
  · rfl
  · rename_i h
    by_cases e : n = c
    · subst e; rw [Nat.zero_add] at h; exact absurd hc h
    · rw [if_neg e]
theorem unhide_set {hid : List Nat} {H R : List Blk} {c : Nat} {z : Blk} (hc : hid.contains c = true) (hl : c < R.length) : unhide hid (setB H c z) 0 R = setB (unhide hid H 0 R) c z := by
  refine ext_getB (by rw [unhide_len, setB_len _ _ _ (by rw [unhide_len]; exact hl), unhide_len]) fun n hn => ?_
  rw [unhide_len] at hn
  rw [getB_setB, getB_unhide _ _ _ _ _ hn, getB_unhide _ _ _ _ _ hn, Nat.zero_add, getB_setB]
  by_cases e : n = c
  · subst e; rw [if_pos rfl, if_pos rfl, if_pos hc]
  · rw [if_neg e, if_neg e]

/-! ### What an operation does, apart from what it touches -/
def Eff.sem (H : List Blk) : Eff → Option (V × Option (Nat × Blk))
  | .ret v => v.map fun v => (v, none)
  | .get b f => (f (getB H b)).sem H
  | .put b f => (f (getB H b)).map fun (x, v) => (v, some (b, x))
def wrote (H : List Blk) : Option (Nat × Blk) → List Blk
  | none => H
  | some (b, x) => setB H b x
theorem Eff.run_sem (H : List Blk) : ∀ e : Eff, e.run H = (e.sem H).map fun r => (r.1, wrote H r.2)
  | .ret v => by simp [Eff.run, Eff.sem, wrote]; rfl
  | .get b f => by simp only [Eff.run, Eff.sem]; exact Eff.run_sem H _
  | .put b f => by simp [Eff.run, Eff.sem, wrote]; rfl
theorem Eff.local {H H' : List Blk} : ∀ e : Eff, (∀ p, p ∈ e.touch H → getB H' p.1 = getB H p.1) → e.sem H' = e.sem H ∧ e.touch H' = e.touch H
  | .ret v, _ => ⟨rfl, rfl⟩
  | .get b f, h => by
    simp only [Eff.touch, List.mem_cons] at h
    have hb := h (b, false) (.inl rfl)
    simp only at hb
    simp only [Eff.sem, Eff.touch, hb]
    have := Eff.local (f (getB H b)) (fun p hp => h p (.inr hp))
    exact ⟨this.1, by rw [this.2]⟩
  | .put b f, h => by
    have hb := h (b, true) (by simp [Eff.touch])
    simp only at hb
    simp [Eff.sem, Eff.touch, hb]
theorem Eff.writes {H : List Blk} : ∀ (e : Eff) {v : V} {b : Nat} {x : Blk}, e.sem H = some (v, some (b, x)) → (b, true) ∈ e.touch H
  | .ret v, _, _, _, h => by simp [Eff.sem] at h
  | .get b f, _, _, _, h => by
    simp only [Eff.sem] at h
    simp only [Eff.touch, List.mem_cons]
    exact .inr (Eff.writes _ h)
  | .put b f, _, _, _, h => by
    simp only [Eff.sem, Option.map_eq_some_iff, Prod.mk.injEq, Option.some.injEq, Prod.exists] at h
    obtain ⟨_, _, _, _, rfl, _⟩ := h
    simp [Eff.touch]

section
variable (pc : Nat → List D → Option D) (ic : Nat → List V → List Blk → Option (V × List Blk))

noncomputable def tch (hid : List Nat) (op : K) (base : Nat) (xs : List V) (H : List Blk) : List Tch :=
  if isCall op then [.all hid] else ((act pc base op xs).touch H).map fun (b, w) => .blk b w

theorem deed_plain {hid : List Nat} {op : K} {base : Nat} {xs : List V} {H : List Blk} (hc : isCall op = false) : exec pc ic hid op base xs H = (act pc base op xs).run H := by
  cases op <;> first
    | rfl
    | simp [isCall] at hc

/-- A call's deed: what it comes to behind the blocks that are hidden. -/
theorem deed_call {hid : List Nat} {op : K} {base : Nat} {xs : List V} (hc : isCall op = true) (hne : hid.isEmpty = false) : ∃ F : List Blk → Option (V × List Blk), ∀ H,
    exec pc ic hid op base xs H = (F (hide hid 0 H)).bind fun r => if H.length ≤ r.2.length ∧ (noRef hid.contains r.1 && r.2.all (noRefB hid.contains)) = true then some (r.1, unhide hid H 0 r.2) else none := by
  cases hid with
  | nil => simp at hne
  | cons h0 hid =>
    cases op <;> first
      | (simp [isCall] at hc; done)
      | skip
    case icall j => exact ⟨fun H => ic j xs H, fun H => rfl⟩
    case dcall =>
      cases xs with
      | nil => exact ⟨fun _ => none, fun H => rfl⟩
      | cons x args =>
        cases x <;> first
          | exact ⟨fun _ => none, fun H => rfl⟩
          | skip
        rename_i f cap
        cases hb : Nat.blt f 10000 with
        | false => exact ⟨fun _ => none, fun H => by simp [exec, callFn, hb]⟩
        | true => exact ⟨fun H => ic f (args ++ cap) H, fun H => by simp only [exec, callFn, hb]; rfl⟩

/-- Two deeds that touch nothing of each other's may change places. -/
theorem deed_comm {ha hb : List Nat} {a b : K} {base : Nat} {xs ys : List V} {H H1 H2 : List Blk} {v u : V} (h1 : exec pc ic ha a base xs H = some (v, H1)) (h2 : exec pc ic hb b base ys H1 = some (u, H2))
    (hm : ∀ x, x ∈ tch pc ha a base xs H → ∀ y, y ∈ tch pc hb b base ys H1 → meets y x = false)
    (hia : ∀ x, x ∈ tch pc ha a base xs H → inH H.length x = true) (hib : ∀ y, y ∈ tch pc hb b base ys H1 → inH H1.length y = true) :
    ∃ H1', exec pc ic hb b base ys H = some (u, H1') ∧ exec pc ic ha a base xs H1' = some (v, H2) ∧ tch pc hb b base ys H = tch pc hb b base ys H1 ∧ tch pc ha a base xs H1' = tch pc ha a base xs H ∧ (∀ x, x ∈ tch pc ha a base xs H1' → inH H1'.length x = true) ∧
      ∀ y, y ∈ tch pc hb b base ys H → inH H.length y = true := by
  have up : ∀ {n m : Nat} {x : Tch}, n ≤ m → inH n x = true → inH m x = true := fun {n m x} hnm hx => by
    cases x with
    | blk b w => simp only [inH, decide_eq_true_eq] at hx ⊢; omega
    | all l => simp only [inH, List.all_eq_true, decide_eq_true_eq] at hx ⊢; intro q hq; have := hx q hq; omega
  cases hca : isCall a <;> cases hcb : isCall b
  · -- two that are no calls
    rw [deed_plain pc ic hca, Eff.run_sem] at h1
    rw [deed_plain pc ic hcb, Eff.run_sem] at h2
    simp only [Option.map_eq_some_iff, Prod.exists, Prod.mk.injEq] at h1 h2
    obtain ⟨_, wa, e1, rfl, rfl⟩ := h1
    obtain ⟨_, wb, e2, rfl, rfl⟩ := h2
    simp only [tch, hca, hcb, Bool.false_eq_true, if_false, List.mem_map] at hm hia hib ⊢
    have hla : (wrote H wa).length = H.length := by
      cases wa with
      | none => rfl
      | some p =>
        obtain ⟨c, z⟩ := p
        have := hia _ ⟨_, Eff.writes _ e1, rfl⟩
        simp only [inH, decide_eq_true_eq] at this
        exact setB_len _ _ _ this
    have hsame : ∀ p, p ∈ (act pc base b ys).touch (wrote H wa) → getB H p.1 = getB (wrote H wa) p.1 := fun p hp => by
      cases wa with
      | none => rfl
      | some q =>
        obtain ⟨c, z⟩ := q
        have := hm _ ⟨_, Eff.writes _ e1, rfl⟩ _ ⟨p, hp, rfl⟩
        simp only [meets, Bool.or_true, Bool.and_true, beq_eq_false_iff_ne, ne_eq] at this
        show getB H p.1 = getB (setB H c z) p.1
        rw [getB_setB, if_neg this]
    obtain ⟨f1, f2⟩ := Eff.local _ hsame
    have hsame2 : ∀ p, p ∈ (act pc base a xs).touch H → getB (wrote H wb) p.1 = getB H p.1 := fun p hp => by
      cases wb with
      | none => rfl
      | some q =>
        obtain ⟨c, z⟩ := q
        have := hm _ ⟨p, hp, rfl⟩ _ ⟨_, Eff.writes _ e2, rfl⟩
        simp only [meets, Bool.true_or, Bool.and_true, beq_eq_false_iff_ne, ne_eq] at this
        show getB (setB H c z) p.1 = getB H p.1
        rw [getB_setB, if_neg (fun e => this e.symm)]
    obtain ⟨g1, g2⟩ := Eff.local _ hsame2
    have hlb : (wrote H wb).length = H.length := by
      cases wb with
      | none => rfl
      | some p =>
        obtain ⟨c, z⟩ := p
        have := hib _ ⟨_, Eff.writes _ e2, rfl⟩
        simp only [inH, decide_eq_true_eq] at this
        exact setB_len _ _ _ (by omega)
    refine ⟨wrote H wb, ?_, ?_, by rw [f2], by rw [g2], fun x hx => ?_, fun y hy => ?_⟩
    rotate_left 2
    · rw [g2] at hx; exact up (by omega) (hia x hx)
    · rw [f2] at hy; rw [← hla]; exact hib y hy
    · rw [deed_plain pc ic hcb, Eff.run_sem, f1, e2]; rfl
    · rw [deed_plain pc ic hca, Eff.run_sem, g1, e1]
      simp only [Option.map_some, Option.some.injEq, Prod.mk.injEq, true_and]
      cases wa with
      | none => rfl
      | some p => cases wb with
        | none => rfl
        | some q =>
          obtain ⟨c, z⟩ := p
          obtain ⟨d, y⟩ := q
          have := hm _ ⟨_, Eff.writes _ e1, rfl⟩ _ ⟨_, Eff.writes _ e2, rfl⟩
          simp only [meets, Bool.or_true, Bool.and_true, beq_eq_false_iff_ne, ne_eq] at this
          exact setB_comm _ _ _ _ _ this
  · -- b is a call
    simp only [tch, hca, hcb, Bool.false_eq_true, if_false, if_true, List.mem_singleton, forall_eq] at hm hia hib ⊢
    rw [deed_plain pc ic hca, Eff.run_sem] at h1
    simp only [Option.map_eq_some_iff, Prod.exists, Prod.mk.injEq] at h1
    obtain ⟨_, wa, e1, rfl, rfl⟩ := h1
    have hhid : ∀ p, p ∈ (act pc base a xs).touch H → hb.contains p.1 = true := fun p hp => by
      have := hm _ (List.mem_map.2 ⟨p, hp, rfl⟩)
      simpa [meets] using this
    have hla : (wrote H wa).length = H.length := by
      cases wa with
      | none => rfl
      | some p =>
        obtain ⟨c, z⟩ := p
        have := hia _ (List.mem_map.2 ⟨_, Eff.writes _ e1, rfl⟩)
        simp only [inH, decide_eq_true_eq] at this
        exact setB_len _ _ _ this
    have hib' : inH H.length (.all hb) = true := by rw [← hla]; exact hib
    cases hne : hb.isEmpty
    · obtain ⟨F, hF⟩ := deed_call pc ic (base := base) (xs := ys) hcb hne
      rw [hF] at h2
      have hhd : hide hb 0 (wrote H wa) = hide hb 0 H := by
        cases wa with
        | none => rfl
        | some p =>
          obtain ⟨c, z⟩ := p
          have hc := hhid _ (Eff.writes _ e1)
          have := hia _ (List.mem_map.2 ⟨_, Eff.writes _ e1, rfl⟩)
          simp only [inH, decide_eq_true_eq] at this
          exact hide_set hc this
      rw [hhd, hla] at h2
      simp only [Option.bind_eq_some_iff, Prod.exists] at h2
      obtain ⟨u', R, h3, h2⟩ := h2
      split at h2
      · rename_i hR
        simp only [Option.some.injEq, Prod.mk.injEq] at h2
        obtain ⟨rfl, rfl⟩ := h2
        have hloc : ∀ p, p ∈ (act pc base a xs).touch H → getB (unhide hb H 0 R) p.1 = getB H p.1 := fun p hp => by
          have hc := hhid p hp
          have hlt := hia _ (List.mem_map.2 ⟨p, hp, rfl⟩)
          simp only [inH, decide_eq_true_eq] at hlt
          rw [getB_unhide _ _ _ _ _ (by omega), Nat.zero_add, if_pos hc]
        obtain ⟨g1, g2⟩ := Eff.local _ hloc
        refine ⟨unhide hb H 0 R, ?_, ?_, trivial, by rw [g2], fun x hx => ?_, hib'⟩
        rotate_left 2
        · rw [g2] at hx; exact up (by rw [unhide_len]; exact hR.1) (hia x hx)
        · rw [hF, h3]; simp only [Option.bind_some, if_pos hR]
        · rw [deed_plain pc ic hca, Eff.run_sem, g1, e1]
          simp only [Option.map_some, Option.some.injEq, Prod.mk.injEq, true_and]
          cases wa with
          | none => rfl
          | some p =>
            obtain ⟨c, z⟩ := p
            have hc := hhid _ (Eff.writes _ e1)
            have := hia _ (List.mem_map.2 ⟨_, Eff.writes _ e1, rfl⟩)
            simp only [inH, decide_eq_true_eq] at this
            exact (unhide_set hc (by omega)).symm
      · cases h2
    · have hnil : hb = [] := by simpa using hne
      subst hnil
      have ht0 : (act pc base a xs).touch H = [] := by
        cases h : (act pc base a xs).touch H with
        | nil => rfl
        | cons p l => exact absurd (hhid p (by rw [h]; simp)) (by simp)
      have hw0 : wa = none := by
        cases wa with
        | none => rfl
        | some p => have := Eff.writes _ e1; rw [ht0] at this; cases this
      subst hw0
      have hloc : ∀ H', (act pc base a xs).sem H' = (act pc base a xs).sem H ∧ (act pc base a xs).touch H' = (act pc base a xs).touch H := fun H' => Eff.local _ (fun p hp => by rw [ht0] at hp; cases hp)
      refine ⟨H2, h2, ?_, trivial, by rw [(hloc H2).2], fun x hx => ?_, hib'⟩
      · rw [deed_plain pc ic hca, Eff.run_sem, (hloc H2).1, e1]; rfl
      · rw [(hloc H2).2, ht0] at hx; cases hx
  · -- a is a call
    simp only [tch, hca, hcb, Bool.false_eq_true, if_false, if_true, List.mem_singleton, forall_eq] at hm hia hib ⊢
    rw [deed_plain pc ic hcb, Eff.run_sem] at h2
    simp only [Option.map_eq_some_iff, Prod.exists, Prod.mk.injEq] at h2
    obtain ⟨_, wb, e2, rfl, rfl⟩ := h2
    have hhid : ∀ p, p ∈ (act pc base b ys).touch H1 → ha.contains p.1 = true := fun p hp => by
      have := hm _ (List.mem_map.2 ⟨p, hp, rfl⟩)
      simpa [meets] using this
    cases hne : ha.isEmpty
    · obtain ⟨F, hF⟩ := deed_call pc ic (base := base) (xs := xs) hca hne
      rw [hF] at h1
      simp only [Option.bind_eq_some_iff, Prod.exists] at h1
      obtain ⟨v', R, h3, h1⟩ := h1
      split at h1
      · rename_i hR
        simp only [Option.some.injEq, Prod.mk.injEq] at h1
        obtain ⟨rfl, rfl⟩ := h1
        have hin : ∀ p, p ∈ (act pc base b ys).touch (unhide ha H 0 R) → p.1 < H.length := fun p hp => by
          have hc := hhid p hp
          simp only [inH, List.all_eq_true, decide_eq_true_eq] at hia
          exact hia p.1 (by simpa using hc)
        have hloc : ∀ p, p ∈ (act pc base b ys).touch (unhide ha H 0 R) → getB H p.1 = getB (unhide ha H 0 R) p.1 := fun p hp => by
          have hc := hhid p hp
          have hlt := hin p hp
          rw [getB_unhide _ _ _ _ _ (by omega), Nat.zero_add, if_pos hc]
        obtain ⟨g1, g2⟩ := Eff.local _ hloc
        have hlw : (wrote H wb).length = H.length := by
          cases wb with
          | none => rfl
          | some p =>
            obtain ⟨c, z⟩ := p
            exact setB_len _ _ _ (hin _ (Eff.writes _ e2))
        have hhd : hide ha 0 (wrote H wb) = hide ha 0 H := by
          cases wb with
          | none => rfl
          | some p =>
            obtain ⟨c, z⟩ := p
            exact hide_set (hhid _ (Eff.writes _ e2)) (hin _ (Eff.writes _ e2))
        refine ⟨wrote H wb, ?_, ?_, by rw [g2], trivial, up (by omega) hia, fun y hy => ?_⟩
        · rw [deed_plain pc ic hcb, Eff.run_sem, g1, e2]; rfl
        · rw [hF, hhd, h3]
          simp only [Option.bind_some]
          rw [hlw, if_pos hR]
          simp only [Option.some.injEq, Prod.mk.injEq, true_and]
          cases wb with
          | none => rfl
          | some p =>
            obtain ⟨c, z⟩ := p
            exact unhide_set (hhid _ (Eff.writes _ e2)) (by have := hin _ (Eff.writes _ e2); simp only at this; omega)
        · rw [g2] at hy
          obtain ⟨p, hp, rfl⟩ := List.mem_map.1 hy
          simpa [inH] using hin p hp
      · cases h1
    · have hnil : ha = [] := by simpa using hne
      subst hnil
      have ht0 : (act pc base b ys).touch H1 = [] := by
        cases h : (act pc base b ys).touch H1 with
        | nil => rfl
        | cons p l => exact absurd (hhid p (by rw [h]; simp)) (by simp)
      have hw0 : wb = none := by
        cases wb with
        | none => rfl
        | some p => have := Eff.writes _ e2; rw [ht0] at this; cases this
      subst hw0
      obtain ⟨g1, g2⟩ := Eff.local (H := H1) (H' := H) (act pc base b ys) (fun p hp => by rw [ht0] at hp; cases hp)
      refine ⟨H, ?_, h1, by rw [g2], trivial, hia, fun y hy => ?_⟩
      · rw [deed_plain pc ic hcb, Eff.run_sem, g1, e2]; rfl
      · rw [g2, ht0] at hy; cases hy
  · -- two calls
    have := hm (.all ha) (by simp [tch, hca]) (.all hb) (by simp [tch, hcb])
    simp [meets] at this

end

/-! ### Operations that stand apart in what they read and give -/
def readsOf : List Opd → List Nat
  | [] => []
  | .t n :: l => n :: readsOf l
  | .c _ :: l => readsOf l
def reads (o : O) : List Nat := match o.guard with
  | some (t, _) => t :: readsOf o.args
  | none => readsOf o.args
def ind (a b : O) : Bool :=
  (match a.dst with | some d => !(reads b).contains d && b.dst != some d | none => true) &&
  (match b.dst with | some d => !(reads a).contains d | none => true)

theorem evs_put {ts : List V} {d : Option Nat} {v : V} : ∀ {l : List Opd}, (∀ n, d = some n → n ∉ readsOf l) → evs (put ts d v) l = evs ts l
  | [], _ => rfl
  | .c x :: l, h => by simp only [evs, Opd.ev]; rw [evs_put (fun n hn => by have := h n hn; simpa [readsOf] using this)]
  | .t n :: l, h => by
    simp only [evs, Opd.ev]
    rw [evs_put (fun m hm => by have := h m hm; simp [readsOf] at this; exact this.2)]
    cases d with
    | none => rfl
    | some m =>
      have := h m rfl
      simp [readsOf] at this
      simp only [put, getT_setT]
      rw [if_neg (fun e => this.1 e.symm)]
theorem want_put {ts : List V} {d : Option Nat} {v : V} {g : Option (Nat × Bool)} (h : ∀ n, d = some n → ∀ t b, g = some (t, b) → n ≠ t) : want (put ts d v) g = want ts g := by
  cases g with
  | none => rfl
  | some p =>
    obtain ⟨t, b⟩ := p
    cases d with
    | none => rfl
    | some n =>
      have := h n rfl t b rfl
      simp only [want, put, getT_setT]
      rw [if_neg (fun e => this e.symm)]
theorem put_comm {ts : List V} {a b : Option Nat} {x y : V} (h : ∀ n, a = some n → b ≠ some n) : put (put ts a x) b y = put (put ts b y) a x := by
  cases a with
  | none => rfl
  | some n => cases b with
    | none => rfl
    | some m => exact setT_comm _ _ _ _ _ (fun e => h n rfl (by rw [e]))

theorem ind_ok {a b : O} (h : ind a b = true) : (∀ n, a.dst = some n → n ∉ reads b ∧ b.dst ≠ some n) ∧ ∀ n, b.dst = some n → n ∉ reads a := by
  unfold ind at h
  simp only [Bool.and_eq_true] at h
  obtain ⟨h1, h2⟩ := h
  constructor
  · intro n hn
    rw [hn] at h1
    simp only [Bool.and_eq_true, Bool.not_eq_true', bne_iff_ne] at h1
    exact ⟨by simpa using h1.1, h1.2⟩
  · intro n hn
    rw [hn] at h2
    simpa using h2
theorem reads_args {o : O} {n : Nat} (h : n ∉ reads o) : n ∉ readsOf o.args := by
  unfold reads at h
  split at h
  · simp at h; exact h.2
  · exact h
theorem reads_guard {o : O} {n : Nat} (h : n ∉ reads o) : ∀ t b, o.guard = some (t, b) → n ≠ t := by
  intro t b hg
  unfold reads at h
  rw [hg] at h
  simp at h; exact h.1

section
variable (pc : Nat → List D → Option D) (ic : Nat → List V → List Blk → Option (V × List Blk))

theorem touch_tch (hid : List Nat) (o : O) (S : St) : touch pc hid o S = if want S.tmps o.guard = some true then tch pc hid o.op S.base (evs S.tmps o.args) S.heap else [] := by
  unfold touch tch
  cases want S.tmps o.guard with
  | none => simp
  | some b => cases b <;> simp

/-- Two operations may change places. -/
theorem oper_comm {a b : O} {ha hb : List Nat} {S S1 S2 : St} (h1 : oper pc ic ha a S = some S1) (h2 : oper pc ic hb b S1 = some S2) (hi : ind a b = true)
    (hm : ∀ x, x ∈ touch pc ha a S → ∀ y, y ∈ touch pc hb b S1 → meets y x = false)
    (hia : ∀ x, x ∈ touch pc ha a S → inH S.heap.length x = true) (hib : ∀ y, y ∈ touch pc hb b S1 → inH S1.heap.length y = true) :
    ∃ S1', oper pc ic hb b S = some S1' ∧ oper pc ic ha a S1' = some S2 ∧ touch pc hb b S = touch pc hb b S1 ∧ touch pc ha a S1' = touch pc ha a S ∧
      (∀ x, x ∈ touch pc ha a S1' → inH S1'.heap.length x = true) ∧ ∀ y, y ∈ touch pc hb b S → inH S.heap.length y = true := by
  obtain ⟨i1, i2⟩ := ind_ok hi
  have eb : ∀ (v : V), evs (put S.tmps a.dst v) b.args = evs S.tmps b.args := fun v => evs_put (fun n hn => reads_args (i1 n hn).1)
  have wb : ∀ (v : V), want (put S.tmps a.dst v) b.guard = want S.tmps b.guard := fun v => want_put (fun n hn => reads_guard (i1 n hn).1)
  have ea : ∀ (v : V), evs (put S.tmps b.dst v) a.args = evs S.tmps a.args := fun v => evs_put (fun n hn => reads_args (i2 n hn))
  have wa : ∀ (v : V), want (put S.tmps b.dst v) a.guard = want S.tmps a.guard := fun v => want_put (fun n hn => reads_guard (i2 n hn))
  have pcm : ∀ (x y : V), put (put S.tmps b.dst y) a.dst x = put (put S.tmps a.dst x) b.dst y := fun x y => (put_comm (fun n hn => (i1 n hn).2)).symm
  simp only [touch_tch] at hm hia hib ⊢
  simp only [oper, Option.bind_eq_some_iff] at h1 h2
  obtain ⟨ga, hga, h1⟩ := h1
  obtain ⟨gb, hgb, h2⟩ := h2
  cases ga
  · -- a is not wanted
    simp only [Bool.false_eq_true, if_false, Option.some.injEq] at h1
    subst h1
    simp only [wb] at hgb
    have hna : ¬ (want S.tmps a.guard = some true) := by rw [hga]; simp
    cases gb
    · simp only [Bool.false_eq_true, if_false, Option.some.injEq] at h2
      subst h2
      refine ⟨{ S with tmps := put S.tmps b.dst undefV }, by simp [oper, hgb], by simp [oper, wa, hga, pcm], by simp [wb, hgb], by simp [wa, hga], by simp [wa, hga], by simp [hgb]⟩
    · simp only [if_true, Option.map_eq_some_iff] at h2
      obtain ⟨⟨u, H2⟩, h2, rfl⟩ := h2
      simp only [eb] at h2
      refine ⟨{ S with tmps := put S.tmps b.dst u, heap := H2 }, ?_, by simp [oper, wa, hga, pcm], by simp [wb, eb], by simp [wa, hga], by simp [wa, hga], ?_⟩
      · simp [oper, hgb, h2]
      · simp only [wb, eb] at hib; exact hib
  · simp only [if_true, Option.map_eq_some_iff] at h1
    obtain ⟨⟨v, H1⟩, h1, rfl⟩ := h1
    simp only [wb] at hgb
    cases gb
    · simp only [Bool.false_eq_true, if_false, Option.some.injEq] at h2
      subst h2
      refine ⟨{ S with tmps := put S.tmps b.dst undefV }, by simp [oper, hgb], ?_, by simp [wb, hgb], by simp [wa, ea], ?_, by simp [hgb]⟩
      · simp [oper, wa, hga, ea, h1, pcm]
      · simp only [wa, ea]; exact hia
    · simp only [if_true, Option.map_eq_some_iff] at h2
      obtain ⟨⟨u, H2⟩, h2, rfl⟩ := h2
      simp only [eb, wb, hga, hgb, if_true] at h2 hm hia hib
      obtain ⟨H1', d1, d2, d3, d4, d5, d6⟩ := deed_comm pc ic h1 h2 hm hia hib
      refine ⟨{ S with tmps := put S.tmps b.dst u, heap := H1' }, ?_, ?_, ?_, ?_, ?_, ?_⟩
      · simp [oper, hgb, d1]
      · simp [oper, wa, hga, ea, d2, pcm]
      · simp only [wb, eb, hgb, if_true]; exact d3
      · simp only [wa, ea, hga, if_true]; exact d4
      · simp only [wa, ea, hga, if_true]; exact d5
      · simp only [hgb, if_true]; exact d6

/-! ### Rows of operations -/
/-- An operation, its place, what is hidden from it. -/
structure A where
  i : Nat
  o : O
  hid : List Nat

noncomputable def runA : List A → St → Option St
  | [], S => some S
  | x :: L, S => (oper pc ic x.hid x.o S).bind (runA L)

noncomputable def stepsA : List A → List (Nat × Tch) → St → Option St
  | [], _, S => some S
  | x :: L, seen, S => if mayBe pc seen x.hid x.o S then (oper pc ic x.hid x.o S).bind (stepsA L ((touch pc x.hid x.o S).map (fun t => (x.i, t)) ++ seen)) else none

theorem stepsA_run : ∀ {L : List A} {seen : List (Nat × Tch)} {S S' : St}, stepsA pc ic L seen S = some S' → runA pc ic L S = some S'
  | [], _, _, _, h => h
  | x :: L, seen, S, S', h => by
    simp only [stepsA] at h
    split at h
    · simp only [Option.bind_eq_some_iff] at h
      obtain ⟨S1, h1, h2⟩ := h
      simp only [runA, h1, Option.bind_some]
      exact stepsA_run h2
    · cases h

theorem mem_apart {seen : List (Nat × Tch)} {o : O} {u : Tch} : u ∈ apart seen o ↔ ∃ i, (i, u) ∈ seen ∧ o.bef.testBit i = false := by
  simp [apart]
theorem mayBe_iff {seen : List (Nat × Tch)} {hid : List Nat} {o : O} {S : St} : mayBe pc seen hid o S = true ↔
    ∀ x, x ∈ touch pc hid o S → inH S.heap.length x = true ∧ ∀ i u, (i, u) ∈ seen → o.bef.testBit i = false → meets x u = false := by
  simp only [mayBe, Bool.and_eq_true, Bool.not_eq_true', List.all_eq_true]
  constructor
  · intro h2
    refine fun x hx => ⟨(h2 x hx).1, fun i u hu hb => ?_⟩
    exact (h2 x hx).2 u (mem_apart.2 ⟨i, hu, hb⟩)
  · intro h2
    refine fun x hx => ⟨(h2 x hx).1, fun u hu => ?_⟩
    obtain ⟨i, hu, hb⟩ := mem_apart.1 hu
    exact (h2 x hx).2 i u hu hb

theorem stepsA_congr : ∀ {L : List A} {seen seen' : List (Nat × Tch)} {S : St}, (∀ p, p ∈ seen' ↔ p ∈ seen) → stepsA pc ic L seen' S = stepsA pc ic L seen S
  | [], _, _, _, _ => rfl
  | x :: L, seen, seen', S, h => by
    have : mayBe pc seen' x.hid x.o S = mayBe pc seen x.hid x.o S := by
      rw [Bool.eq_iff_iff, mayBe_iff, mayBe_iff]
      simp only [h]
    simp only [stepsA, this]
    split
    · refine congrArg _ (funext fun S1 => stepsA_congr fun p => ?_)
      simp only [List.mem_append, h]
    · rfl

theorem meets_symm (x y : Tch) : meets x y = meets y x := by
  cases x <;> cases y <;> simp [meets, Bool.beq_comm, Bool.or_comm, eq_comm]

/-- Two neighbours that no order holds apart may change places. -/
theorem stepsA_swap {a b : A} {L : List A} {seen : List (Nat × Tch)} {S S' : St} (h : stepsA pc ic (a :: b :: L) seen S = some S') (hb : b.o.bef.testBit a.i = false) (hi : ind a.o b.o = true) :
    stepsA pc ic (b :: a :: L) seen S = some S' := by
  simp only [stepsA] at h
  split at h
  · rename_i ma
    simp only [Option.bind_eq_some_iff] at h
    obtain ⟨S1, h1, h⟩ := h
    split at h
    · rename_i mb
      simp only [Option.bind_eq_some_iff] at h
      obtain ⟨S2, h2, h⟩ := h
      rw [mayBe_iff] at ma mb
      obtain ⟨S1', g1, g2, g3, g4, g5, g6⟩ := oper_comm pc ic h1 h2 hi
        (fun x hx y hy => (mb y hy).2 a.i x (List.mem_append_left _ (List.mem_map.2 ⟨x, hx, rfl⟩)) hb)
        (fun x hx => (ma x hx).1) (fun y hy => (mb y hy).1)
      have mb' : mayBe pc seen b.hid b.o S = true := (mayBe_iff pc).2 (fun y hy => ⟨g6 y hy, fun i u hu hbit => by
        rw [g3] at hy
        exact (mb y hy).2 i u (List.mem_append_right _ hu) hbit⟩)
      have ma' : mayBe pc ((touch pc b.hid b.o S).map (fun t => (b.i, t)) ++ seen) a.hid a.o S1' = true := (mayBe_iff pc).2 (fun x hx => ⟨g5 x hx, fun i u hu hbit => by
        rw [g4] at hx
        rcases List.mem_append.1 hu with hu | hu
        · obtain ⟨y, hy, e⟩ := List.mem_map.1 hu
          cases e
          rw [g3] at hy
          rw [meets_symm]
          exact (mb u hy).2 a.i x (List.mem_append_left _ (List.mem_map.2 ⟨x, hx, rfl⟩)) hb
        · exact (ma x hx).2 i u hu hbit⟩)
      simp only [stepsA, mb', if_true, g1, Option.bind_some, ma', g2]
      rw [← h]
      refine stepsA_congr pc ic fun p => ?_
      rw [g3, g4]
      simp only [List.mem_append]
      exact ⟨fun h => by rcases h with h | h | h <;> simp [h], fun h => by rcases h with h | h | h <;> simp [h]⟩
    · cases h
  · cases h

theorem stepsA_under {L L' : List A} : ∀ {K : List A} {seen : List (Nat × Tch)} {S S' : St}, (∀ seen S S', stepsA pc ic L seen S = some S' → stepsA pc ic L' seen S = some S') →
    stepsA pc ic (K ++ L) seen S = some S' → stepsA pc ic (K ++ L') seen S = some S'
  | [], _, _, _, h, k => h _ _ _ k
  | x :: K, seen, S, S', h, k => by
    simp only [List.cons_append, stepsA] at k ⊢
    split at k
    · rename_i hm
      simp only [hm, if_true]
      simp only [Option.bind_eq_some_iff] at k ⊢
      obtain ⟨S1, k1, k2⟩ := k
      exact ⟨S1, k1, stepsA_under h k2⟩
    · cases k

/-- One that waits for none of those ahead may be the first. -/
theorem stepsA_front {z : A} {B : List A} : ∀ {K : List A} {seen : List (Nat × Tch)} {S S' : St}, (∀ a, a ∈ K → z.o.bef.testBit a.i = false ∧ ind a.o z.o = true) →
    stepsA pc ic (K ++ z :: B) seen S = some S' → stepsA pc ic (z :: (K ++ B)) seen S = some S'
  | [], _, _, _, _, k => k
  | x :: K, seen, S, S', h, k => by
    have h1 := h x (by simp)
    have k1 : stepsA pc ic ([x] ++ (z :: (K ++ B))) seen S = some S' := stepsA_under pc ic (K := [x]) (fun seen S S' k => stepsA_front (fun a ha => h a (by simp [ha])) k) k
    exact stepsA_swap pc ic k1 h1.1 h1.2

/-- Whatever order is drawn that holds what must be ahead ahead, the same comes of it. -/
theorem stepsA_any : ∀ {L' L : List A} {seen : List (Nat × Tch)} {S S' : St}, L'.Perm L → L'.Pairwise (fun z y => z.o.bef.testBit y.i = false) →
    L.Pairwise (fun a b => b.o.bef.testBit a.i = true ∨ ind a.o b.o = true) → stepsA pc ic L seen S = some S' → runA pc ic L' S = some S'
  | [], L, seen, S, S', hp, _, _, h => by
    have : L = [] := hp.symm.eq_nil
    subst this; exact h
  | z :: L', L, seen, S, S', hp, ho, hs, h => by
    have hz : z ∈ L := hp.subset (by simp)
    obtain ⟨K, B, rfl⟩ := List.append_of_mem hz
    have hp' : L'.Perm (K ++ B) := (hp.trans (List.perm_middle)).cons_inv
    rw [List.pairwise_cons] at ho
    rw [List.pairwise_append, List.pairwise_cons] at hs
    obtain ⟨hs1, ⟨hs2, hs3⟩, hs4⟩ := hs
    have hfr : ∀ a, a ∈ K → z.o.bef.testBit a.i = false ∧ ind a.o z.o = true := fun a ha => by
      have h1 : z.o.bef.testBit a.i = false := ho.1 a (hp'.symm.subset (List.mem_append_left _ ha))
      refine ⟨h1, ?_⟩
      rcases hs4 a ha z (by simp) with h2 | h2
      · rw [h1] at h2; cases h2
      · exact h2
    have hf := stepsA_front pc ic hfr h
    simp only [stepsA] at hf
    split at hf
    · simp only [Option.bind_eq_some_iff] at hf
      obtain ⟨S1, k1, k2⟩ := hf
      simp only [runA, k1, Option.bind_some]
      refine stepsA_any hp' ho.2 ?_ k2
      rw [List.pairwise_append]
      exact ⟨hs1, hs3, fun a ha b hb => hs4 a ha b (by simp [hb])⟩
    · cases hf

/-- The canonical run tells what is hidden from each call. -/
theorem drawn_A : ∀ {ops : List O} {i : Nat} {seen : List (Nat × Tch)} {S S' : St}, drawn pc ic ops i seen S = some S' →
    ∃ L : List A, L.map A.o = ops ∧ L.map A.i = List.range' i ops.length ∧ stepsA pc ic L seen S = some S'
  | [], i, seen, S, S', h => ⟨[], rfl, rfl, h⟩
  | o :: os, i, seen, S, S', h => by
    simp only [drawn] at h
    generalize hh : (if isCall o.op then blks (apart seen o) else []) = hid at h
    split at h
    · rename_i hm
      simp only [Option.bind_eq_some_iff] at h
      obtain ⟨S1, h1, h2⟩ := h
      obtain ⟨L, e1, e2, e3⟩ := drawn_A h2
      refine ⟨⟨i, o, hid⟩ :: L, by simp [e1], by simp [e2, List.range'_succ], ?_⟩
      simp only [stepsA, hm, if_true, h1, Option.bind_some]
      exact e3
    · cases h
end
end Go.Vm
