/- Calls in place: what is hidden from them, what is let go behind them. -/
import Derived.Test.YtjffpbodflkehaaGreatDoorOVmCheck
import Derived.Test.YtjffpbodflkehaaGreatDoorOVmConf
set_option linter.unusedVariables false
set_option linter.unusedSimpArgs false
namespace Go.Vm
open Go.RowKit

section
variable {P : Program} {E : Env} {o : Oper} {w : World} {G : Gh} {H : List Blk}

/-! ### Values without references to some blocks -/
mutual
theorem noRef_ok {is : Nat → Bool} {G' : Gh} {H' : List Blk} (hW : G'.W = G.W) (hH : ∀ b, is b = false → getB H' b = getB H b ∧ G'.σ b = G.σ b) : ∀ (x : V) (v : Value), noRef is x = true → RV w G H x v → RV w G' H' x v
  | .d x, v, _, h => by simp only [RV] at h ⊢; rw [hW]; exact h
  | .vec b rows, v, hn, h => by
    simp only [noRef, Bool.not_eq_true'] at hn
    obtain ⟨e1, e2⟩ := hH b hn
    simp only [RV] at h ⊢
    rw [e1, e2, hW]; exact h
  | .arr b ver sz off len, v, hn, h => by
    simp only [noRef, Bool.not_eq_true'] at hn
    obtain ⟨e1, e2⟩ := hH b hn
    simp only [RV] at h ⊢
    rw [e1, e2]; exact h
  | .ptr b ver off, v, hn, h => by
    simp only [noRef, Bool.not_eq_true'] at hn
    obtain ⟨e1, e2⟩ := hH b hn
    simp only [RV] at h ⊢
    rw [e1, e2]; exact h
  | .map b, v, hn, h => by
    simp only [noRef, Bool.not_eq_true'] at hn
    obtain ⟨e1, e2⟩ := hH b hn
    simp only [RV] at h ⊢
    rw [e1, e2]; exact h
  | .fn f cap, v, hn, h => by
    simp only [noRef] at hn
    simp only [RV] at h ⊢
    obtain ⟨cs, e, h⟩ := h
    exact ⟨cs, e, noRefs_ok hW hH cap cs hn h⟩
  | .agg cs, v, hn, h => by
    simp only [noRef] at hn
    simp only [RV] at h ⊢
    obtain ⟨vs, e, h, h1⟩ := h
    exact ⟨vs, e, noRefs_ok hW hH cs vs hn h, h1⟩
  | .tup cs, v, hn, h => by
    simp only [noRef] at hn
    simp only [RV] at h ⊢
    obtain ⟨vs, e, h⟩ := h
    exact ⟨vs, e, noRefs_ok hW hH cs vs hn h⟩
  | .nilS, v, _, h => by simpa only [RV] using h
  | .e0, v, _, h => by simpa only [RV] using h
  | .nn rows, v, _, h => by simp only [RV] at h ⊢; rw [hW]; exact h
  | .ex rows, v, _, h => by simp only [RV] at h ⊢; rw [hW]; exact h
  | .nilF, v, _, h => by simpa only [RV] using h
  | .junk, v, _, h => by simp only [RV]
theorem noRefs_ok {is : Nat → Bool} {G' : Gh} {H' : List Blk} (hW : G'.W = G.W) (hH : ∀ b, is b = false → getB H' b = getB H b ∧ G'.σ b = G.σ b) : ∀ (xs : List V) (vs : List Value), noRefs is xs = true → RVs w G H xs vs → RVs w G' H' xs vs
  | [], vs, _, h => by rw [RVs_nil] at h ⊢; exact h
  | x :: xs, vs, hn, h => by
    simp only [noRefs, Bool.and_eq_true] at hn
    obtain ⟨v, vs', rfl, h1, h2⟩ := RVs_cons.1 h
    exact RVs_cons.2 ⟨v, vs', rfl, noRef_ok hW hH x v hn.1 h1, noRefs_ok hW hH xs vs' hn.2 h2⟩
end

theorem noRefs_mem {is : Nat → Bool} : ∀ {l : List V}, noRefs is l = true → ∀ x, x ∈ l → noRef is x = true
  | [], _, x, h => by cases h
  | y :: l, hn, x, h => by
    simp only [noRefs, Bool.and_eq_true] at hn
    rcases List.mem_cons.1 h with rfl | h
    · exact hn.1
    · exact noRefs_mem hn.2 x h
theorem entries_ok {is : Nat → Bool} {G' : Gh} {H' : List Blk} (hW : G'.W = G.W) (hH : ∀ b, is b = false → getB H' b = getB H b ∧ G'.σ b = G.σ b) : ∀ {es : List (D × V)} {ms : List MapEntry}, (es.all fun e => noRef is e.2) = true → EntriesR w G H es ms → EntriesR w G' H' es ms
  | [], _, _, h => h
  | e :: es, _, hn, ⟨m, ms', rfl, a, b, c⟩ => by
    simp only [List.all_cons, Bool.and_eq_true] at hn
    exact ⟨m, ms', rfl, by rw [hW]; exact a, noRef_ok hW hH _ _ hn.1 b, entries_ok hW hH hn.2 c⟩
theorem BR.noRef {is : Nat → Bool} {G' : Gh} {H' : List Blk} (hW : G'.W = G.W) (hH : ∀ b, is b = false → getB H' b = getB H b ∧ G'.σ b = G.σ b) {b : Nat} (hb : is b = false) {blk : Blk} (hn : noRefB is blk = true) (h : BR w G H b blk) : BR w G' H' b blk := by
  obtain ⟨e1, e2⟩ := hH b hb
  cases blk with
  | mem ver cells =>
    obtain ⟨cs, h1, h2, h3, h4⟩ := h
    simp only [noRefB] at hn
    refine ⟨cs, by rw [e2]; exact h1, h2, by rw [e2, hW]; exact h3, fun i c hc => ?_⟩
    obtain ⟨v, g1, g2, g3⟩ := h4 i c hc
    exact ⟨v, g1, g2, noRef_ok hW hH c v (noRefs_mem hn c (List.mem_of_getElem? hc)) g3⟩
  | tok sz n =>
    obtain ⟨cs, h1, h2, h3⟩ := h
    exact ⟨cs, by rw [e2]; exact h1, h2, by rw [e2, hW]; exact h3⟩
  | map es =>
    obtain ⟨h1, ms, clock, h2, h3⟩ := h
    exact ⟨by rw [e2, hW]; exact h1, ms, clock, by rw [e2]; exact h2, entries_ok hW hH (by simpa [noRefB] using hn) h3⟩
  | dead => trivial
  | gone => trivial

/-! ### What is let go -/
theorem take_ok {n : Nat} (hs : HS G H w) (hn : (H.take n).all (noRefB fun x => decide (n ≤ x)) = true) : HS G (H.take n) w := by
  have hH : ∀ b, (decide (n ≤ b)) = false → getB (H.take n) b = getB H b ∧ G.σ b = G.σ b := fun b hb => by
    rw [getB_take, if_pos (by simpa using hb)]; exact ⟨rfl, rfl⟩
  refine ⟨fun b => ?_, fun b c hb hc e => ?_⟩
  · by_cases hb : b < n
    · have hd : decide (n ≤ b) = false := by simpa using hb
      rw [(hH b hd).1]
      refine BR.noRef rfl hH hd ?_ (hs.blk b)
      by_cases hl : b < H.length
      · have h1 : (H.take n)[b]? = some (getB H b) := by
          rw [List.getElem?_take, if_pos hb, getB_eq, List.getElem?_eq_getElem hl]; rfl
        exact List.all_eq_true.1 hn _ (List.mem_of_getElem? h1)
      · rw [getB_out _ _ (by omega)]; rfl
    · rw [getB_take, if_neg hb]; trivial
  · rw [getB_take] at hb hc
    split at hb
    · split at hc
      · exact hs.inj b c hb hc e
      · exact hc.elim
    · exact hb.elim

theorem T.take {w0 : World} {G0 : Gh} {H0 : List Blk} {n : Nat} (hT : T w0 G0 H0 w G H) (hn : H0.length ≤ n) : T w0 G0 H0 w G (H.take n) := by
  have hlt : ∀ b, getB H0 b ≠ .dead → b < n := fun b hb => by
    rcases Nat.lt_or_ge b H0.length with h | h
    · omega
    · exact absurd (getB_out H0 b h) hb
  refine ⟨⟨hT.ext.keep, fun b hb => ?_, fun b ver' cells' hb he => ?_, fun b sz n' hb he => ?_, fun b es' hb he => ?_⟩, hT.os, hT.tape, hT.output, hT.size, fun b hb => ?_, hT.frame⟩
  · rw [getB_take, if_pos (hlt b hb)]; exact hT.ext.live b hb
  · rw [getB_take, if_pos (hlt b hb)] at he; exact hT.ext.mem b ver' cells' hb he
  · rw [getB_take, if_pos (hlt b hb)] at he; exact hT.ext.tok b sz n' hb he
  · rw [getB_take, if_pos (hlt b hb)] at he; exact hT.ext.map b es' hb he
  · rw [getB_take] at hb
    split at hb
    · exact hT.own b hb
    · exact hb.elim

theorem getT_mem {ts : List V} {t : Nat} (h : t < ts.length) : getT ts t ∈ ts := by
  induction ts generalizing t with
  | nil => simp at h
  | cons x l ih => cases t with
    | zero => simp [getT_nil, getT_zero, getT_succ]
    | succ t => simp only [getT_nil, getT_zero, getT_succ]; exact List.mem_cons_of_mem _ (ih (by simpa using h))
theorem getT_out {ts : List V} {t : Nat} (h : ts.length ≤ t) : getT ts t = .junk := by
  induction ts generalizing t with
  | nil => rfl
  | cons x l ih => cases t with
    | zero => simp at h
    | succ t => simp only [getT_nil, getT_zero, getT_succ]; exact ih (by simpa using h)

theorem trimmed_ok {trim : Bool} {n : Nat} {ts : List V} {H' : List Blk} (h : trimmed trim n ts H = some H') {N : Nat} {a : Act} (hs : HS G H w) (hT : TR w G H N ts a)
    {w0 : World} {G0 : Gh} {H0 : List Blk} (hT0 : T w0 G0 H0 w G H) (hn : H0.length ≤ n) : HS G H' w ∧ TR w G H' N ts a ∧ T w0 G0 H0 w G H' := by
  unfold trimmed at h
  split at h
  · split at h
    · rename_i hc
      simp only [Bool.and_eq_true] at hc
      obtain ⟨h2, h3⟩ := hc
      cases h
      have hH : ∀ b, (decide (n ≤ b)) = false → getB (H.take n) b = getB H b ∧ G.σ b = G.σ b := fun b hb => by
        rw [getB_take, if_pos (by simpa using hb)]; exact ⟨rfl, rfl⟩
      refine ⟨take_ok hs h3, ⟨hT.size, hT.defers, fun t => ?_⟩, hT0.take hn⟩
      by_cases ht : t < ts.length
      · exact noRef_ok rfl hH _ _ (noRefs_mem h2 _ (getT_mem ht)) (hT.tmp t)
      · rw [getT_out (by omega)]; simp only [RV]
    · cases h
  · cases h
    exact ⟨hs, hT, hT0⟩

/-! ### What is hidden -/
theorem getB_hide' (hid : List Nat) (b : Nat) : getB (hide hid 0 H) b = if b < H.length ∧ hid.contains b = true then .gone else getB H b := by
  by_cases hb : b < H.length
  · rw [getB_hide _ _ _ _ hb, Nat.zero_add]; simp [hb]
  · rw [getB_out _ _ (by rw [hide_len]; omega), if_neg (fun h => hb h.1), getB_out _ _ (by omega)]

theorem Ext.hide (hid : List Nat) : Ext w G H w G (hide hid 0 H) := by
  refine ⟨Keep.refl _ _, fun b hb => ?_, fun b ver' cells' hb he => ?_, fun b sz n' hb he => ?_, fun b es' hb he => ?_⟩
  · rw [getB_hide']; split
    · simp
    · exact hb
  all_goals
    rw [getB_hide'] at he
    split at he
    · cases he
  · exact ⟨ver', cells', he, Nat.le_refl _, fun _ => ⟨rfl, fun cs h => ⟨cs, h, rfl⟩⟩⟩
  · exact ⟨n', he, Nat.le_refl _, fun _ => ⟨rfl, fun cs h => ⟨cs, h, rfl⟩⟩⟩
  · exact ⟨es', he, rfl⟩

theorem HS.hide (hs : HS G H w) (hid : List Nat) : HS G (hide hid 0 H) w := by
  refine ⟨fun b => ?_, fun b c hb hc e => ?_⟩
  · rw [getB_hide']; split
    · trivial
    · exact BR.ext (Ext.hide hid) (hs.blk b) (fun _ => ⟨rfl, rfl, rfl⟩)
  · rw [getB_hide'] at hb hc
    split at hb
    · exact hb.elim
    · split at hc
      · exact hc.elim
      · exact hs.inj b c hb hc e

theorem unhide_ok {hid : List Nat} {w' : World} {G' : Gh} {R : List Blk} {r : V} {v : Value} (hs : HS G H w) (hr : RV w' G' R r v) (hs' : HS G' R w') (hT : T w G (hide hid 0 H) w' G' R) (hl : H.length ≤ R.length)
    (hn1 : noRef hid.contains r = true) (hn2 : R.all (noRefB hid.contains) = true) : Post w G H (unhide hid H 0 R) r v w' := by
  have gU : ∀ b, getB (unhide hid H 0 R) b = if b < R.length ∧ hid.contains b = true then getB H b else getB R b := fun b => by
    by_cases hb : b < R.length
    · rw [getB_unhide _ _ _ _ _ hb, Nat.zero_add]; simp [hb]
    · rw [getB_out _ _ (by rw [unhide_len]; omega), if_neg (fun h => hb h.1), getB_out _ _ (by omega)]
  let G'' : Gh := ⟨fun b => if hid.contains b = true then G.σ b else G'.σ b, G'.W⟩
  have hH : ∀ b, hid.contains b = false → getB (unhide hid H 0 R) b = getB R b ∧ G''.σ b = G'.σ b := fun b hb => by
    rw [gU, if_neg (by rw [hb]; simp)]
    refine ⟨rfl, ?_⟩
    show (if hid.contains b = true then _ else _) = _
    rw [hb]; rfl
  -- hidden blocks stay
  have stay : ∀ b, hid.contains b = true → (getB H b).act → w'.heap[G.σ b]? = w.heap[G.σ b]? ∧ G'.W (G.σ b) = G.W (G.σ b) := fun b hb ha => by
    refine hT.frame _ (hs.lt b ha) fun c hc e => ?_
    rw [getB_hide'] at hc
    split at hc
    · exact hc
    · rename_i hne
      have := hs.inj c b hc ha e
      subst this
      refine hne ⟨?_, hb⟩
      rcases Nat.lt_or_ge c H.length with h | h
      · exact h
      · rw [getB_out _ _ h] at ha; exact ha.elim
  have low : ∀ b, getB H b ≠ .dead → b < R.length := fun b hb => by
    rcases Nat.lt_or_ge b H.length with h | h
    · omega
    · exact absurd (getB_out _ _ h) hb
  have hσ1 : ∀ b, hid.contains b = true → G''.σ b = G.σ b := fun b hb => by show (if hid.contains b = true then _ else _) = _; rw [if_pos hb]
  have hx : Ext w G H w' G'' (unhide hid H 0 R) := by
    refine ⟨hT.ext.keep, fun b hb => ?_, fun b ver' cells' hb he => ?_, fun b sz n' hb he => ?_, fun b es' hb he => ?_⟩
    · rw [gU]
      split
      · exact hb
      · rename_i hne
        have hc : hid.contains b = false := by
          cases h : hid.contains b
          · rfl
          · exact absurd ⟨low b hb, h⟩ hne
        refine hT.ext.live b ?_
        rw [getB_hide', if_neg (by rw [hc]; simp)]; exact hb
    · cases hc : hid.contains b
      · obtain ⟨e1, e2⟩ := hH b hc
        rw [e1] at he
        rw [e2]
        have := hT.ext.mem b ver' cells' (by rw [getB_hide', if_neg (by rw [hc]; simp)]; exact hb) he
        rwa [getB_hide', if_neg (by rw [hc]; simp)] at this
      · rw [gU, if_pos ⟨low b hb, hc⟩] at he
        exact ⟨ver', cells', he, Nat.le_refl _, fun _ => ⟨hσ1 b hc, fun cs hcs => ⟨cs, hcs.of_heap (stay b hc (by rw [he]; trivial)).1, rfl⟩⟩⟩
    · cases hc : hid.contains b
      · obtain ⟨e1, e2⟩ := hH b hc
        rw [e1] at he
        rw [e2]
        have := hT.ext.tok b sz n' (by rw [getB_hide', if_neg (by rw [hc]; simp)]; exact hb) he
        rwa [getB_hide', if_neg (by rw [hc]; simp)] at this
      · rw [gU, if_pos ⟨low b hb, hc⟩] at he
        exact ⟨n', he, Nat.le_refl _, fun _ => ⟨hσ1 b hc, fun cs hcs => ⟨cs, hcs.of_heap (stay b hc (by rw [he]; trivial)).1, rfl⟩⟩⟩
    · cases hc : hid.contains b
      · obtain ⟨e1, e2⟩ := hH b hc
        rw [e1] at he
        rw [e2]
        have := hT.ext.map b es' (by rw [getB_hide', if_neg (by rw [hc]; simp)]; exact hb) he
        rwa [getB_hide', if_neg (by rw [hc]; simp)] at this
      · rw [gU, if_pos ⟨low b hb, hc⟩] at he
        exact ⟨es', he, hσ1 b hc⟩
  have hfar : ∀ b c, hid.contains b = true → (getB H b).act → hid.contains c = false → (getB R c).act → G'.σ c ≠ G.σ b := fun b c hb hab hc hac e => by
    have hlt := hs.lt b hab
    rcases hT.own c hac with ⟨h1, h2⟩ | h1
    · rw [getB_hide', if_neg (by rw [hc]; simp)] at h1
      rw [h2] at e
      have := hs.inj c b h1 hab e
      subst this
      rw [hb] at hc; cases hc
    · omega
  refine ⟨G'', noRef_ok (w := w') (G := G') (H := R) (G' := G'') rfl hH r v hn1 hr, ⟨fun b => ?_, fun b c hb hc e => ?_⟩, hx, hT.os, hT.tape, hT.output, hT.size, fun b hb => ?_, fun g hg hne => ?_⟩
  · cases hc : hid.contains b
    · rw [(hH b hc).1]
      refine BR.noRef (w := w') (G := G') (H := R) (G' := G'') rfl hH hc ?_ (hs'.blk b)
      by_cases hbl : b < R.length
      · have : R[b]? = some (getB R b) := by rw [getB_eq, List.getElem?_eq_getElem hbl]; rfl
        exact List.all_eq_true.1 hn2 _ (List.mem_of_getElem? this)
      · rw [getB_out _ _ (by omega)]; rfl
    · rw [gU]
      split
      · exact BR.ext hx (hs.blk b) (fun ha => ⟨hσ1 b hc, stay b hc ha⟩)
      · rename_i h
        rw [getB_out _ _ (by
          rcases Nat.lt_or_ge b R.length with h' | h'
          · exact absurd ⟨h', hc⟩ h
          · exact h')]
        trivial
  · cases hb' : hid.contains b <;> cases hc' : hid.contains c
    · rw [(hH b hb').1] at hb
      rw [(hH c hc').1] at hc
      rw [(hH b hb').2, (hH c hc').2] at e
      exact hs'.inj b c hb hc e
    · rw [(hH b hb').1] at hb
      rw [gU] at hc
      rw [(hH b hb').2, hσ1 c hc'] at e
      split at hc
      · exact absurd e (hfar c b hc' hc hb' hb)
      · rename_i h
        rw [getB_out _ _ (by
          rcases Nat.lt_or_ge c R.length with h' | h'
          · exact absurd ⟨h', hc'⟩ h
          · exact h')] at hc
        exact hc.elim
    · rw [(hH c hc').1] at hc
      rw [gU] at hb
      rw [(hH c hc').2, hσ1 b hb'] at e
      split at hb
      · exact absurd e.symm (hfar b c hb' hb hc' hc)
      · rename_i h
        rw [getB_out _ _ (by
          rcases Nat.lt_or_ge b R.length with h' | h'
          · exact absurd ⟨h', hb'⟩ h
          · exact h')] at hb
        exact hb.elim
    · rw [gU] at hb hc
      rw [hσ1 b hb', hσ1 c hc'] at e
      split at hb
      · split at hc
        · exact hs.inj b c hb hc e
        · rename_i h
          rw [getB_out _ _ (by
            rcases Nat.lt_or_ge c R.length with h' | h'
            · exact absurd ⟨h', hc'⟩ h
            · exact h')] at hc
          exact hc.elim
      · rename_i h
        rw [getB_out _ _ (by
          rcases Nat.lt_or_ge b R.length with h' | h'
          · exact absurd ⟨h', hb'⟩ h
          · exact h')] at hb
        exact hb.elim
  · cases hc : hid.contains b
    · rw [(hH b hc).1] at hb
      rw [(hH b hc).2]
      rcases hT.own b hb with ⟨h1, h2⟩ | h1
      · rw [getB_hide', if_neg (by rw [hc]; simp)] at h1
        exact .inl ⟨h1, h2⟩
      · exact .inr h1
    · rw [gU] at hb
      split at hb
      · exact .inl ⟨hb, hσ1 b hc⟩
      · rename_i h
        rw [getB_out _ _ (by
          rcases Nat.lt_or_ge b R.length with h' | h'
          · exact absurd ⟨h', hc⟩ h
          · exact h')] at hb
        exact hb.elim
  · refine hT.frame g hg fun c hc => hne c ?_
    rw [getB_hide'] at hc
    split at hc
    · exact hc.elim
    · exact hc

variable {ic : Nat → List V → List Blk → Option (V × List Blk)}

theorem callIn_ok {fid : Nat → FuncId} (hic : IcOK P fid ic) {hid : List Nat} {j : Nat} {xs : List V} {r : V} {H' : List Blk} (h : callIn ic hid j xs H = some (r, H')) (hs : HS G H w)
    {args : List Value} (hx : RVs w G H xs args) : Does P (callFunc (fid j) args.toArray) w (Post w G H H' r) := by
  cases hid with
  | nil => exact hic j xs _ _ _ h w G args hx hs
  | cons h0 hid =>
    simp only [callIn, Option.bind_eq_some_iff] at h
    obtain ⟨⟨r', R⟩, h1, h⟩ := h
    split at h
    · rename_i hc
      simp only [Bool.and_eq_true] at hc
      simp only [Option.some.injEq, Prod.mk.injEq] at h
      obtain ⟨rfl, rfl⟩ := h
      refine (hic j xs _ _ _ h1 w G args (RVs.ext (Ext.hide (h0 :: hid)) _ _ hx) (hs.hide (h0 :: hid))).mono fun v w' hp => ?_
      obtain ⟨G', g1, g2, g3⟩ := hp
      exact unhide_ok hs g1 g2 g3 hc.1 hc.2.1 hc.2.2
    · cases h
end
end Go.Vm
