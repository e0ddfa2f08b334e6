/- The orders that the model draws: each is one of all operations that holds ahead what an operation waits for. -/
import Derived.Test.YtjffpbodflkehaaGreatDoorOVmDef
set_option linter.unusedVariables false
set_option linter.unusedSimpArgs false
namespace Go.Vm
open Go.Region

theorem perm_of_sub : ∀ {r l : List Nat}, r.Nodup → (∀ x, x ∈ r → x ∈ l) → r.length = l.length → r.Perm l
  | [], l, _, _, hl => by
    have : l = [] := List.eq_nil_of_length_eq_zero (by simpa using hl.symm)
    subst this; exact List.Perm.refl _
  | a :: r, l, hn, hs, hl => by
    rw [List.nodup_cons] at hn
    obtain ⟨l1, l2, rfl⟩ := List.append_of_mem (hs a (by simp))
    have hp : r.Perm (l1 ++ l2) := perm_of_sub hn.2 (fun x hx => by
      have := hs x (by simp [hx])
      simp only [List.mem_append, List.mem_cons] at this ⊢
      rcases this with h | h | h
      · exact .inl h
      · subst h; exact absurd hx hn.1
      · exact .inr h) (by simp at hl ⊢; omega)
    exact (List.Perm.cons a hp).trans List.perm_middle.symm

/-- Rows in which each waits for what was listed ahead of it. -/
def Sched (m : Region.Mode) (ops : Array Oper) : (Nat → Bool) → List Nat → Prop
  | _, [] => True
  | f, i :: l => i < ops.size ∧ f i = false ∧ (∀ o, ops[i]? = some o → ∀ e, e ∈ o.after.toList → binds m e = true → f e.on = true) ∧ Sched m ops (fun j => j == i || f j) l

/-- What may be listed next. -/
def nexts (m : Region.Mode) (ops : Array Oper) (f : Nat → Bool) : List Nat :=
  (List.range ops.size).filter fun i => !f i && ((ops[i]?).map (·.after.all fun e => !binds m e || f e.on)).getD false

theorem go_spec (m : Region.Mode) (ops : Array Oper) : ∀ (fuel t : Nat) (listed : Array Bool) (acc : List Nat) (f : Nat → Bool), listed.size = ops.size → (∀ j, listed.getD j false = f j) →
    ∃ l, linearise.go m ops fuel t listed acc = acc.reverse ++ l ∧ Sched m ops f l ∧ (l.length = fuel ∨ nexts m ops (fun j => l.contains j || f j) = []) := by
  intro fuel
  induction fuel with
  | zero => intro t listed acc f _ _; exact ⟨[], by simp [linearise.go], trivial, .inl rfl⟩
  | succ fuel ih =>
    intro t listed acc f hs hf
    have hrs : ((List.range ops.size).filter fun i => !listed.getD i true && ((ops[i]?).map (·.after.all fun e => !binds m e || listed.getD e.on false)).getD false) = nexts m ops f := by
      unfold nexts
      refine List.filter_congr fun i hi => ?_
      have hi' : i < ops.size := by simpa using hi
      have h1 : listed.getD i true = f i := by
        rw [← hf i]; simp [Array.getD, hs, hi']
      rw [h1]
      simp only [hf]
    simp only [linearise.go]
    rw [hrs]
    cases hg : (nexts m ops f)[t % (nexts m ops f).length]? with
    | none =>
      refine ⟨[], by simp, trivial, .inr ?_⟩
      have h0 : nexts m ops f = [] := by
        cases hc : nexts m ops f with
        | nil => rfl
        | cons x r =>
          rw [hc] at hg
          have := List.getElem?_eq_none_iff.1 hg
          have h2 := Nat.mod_lt t (show 0 < (x :: r).length by simp)
          omega
      simpa using h0
    | some i =>
      have hmem := List.mem_of_getElem? hg
      unfold nexts at hmem
      simp only [List.mem_filter, List.mem_range, Bool.and_eq_true, Bool.not_eq_true'] at hmem
      obtain ⟨hi, hfi, ho⟩ := hmem
      obtain ⟨l, e1, e2, e3⟩ := ih (t / (nexts m ops f).length) (listed.setIfInBounds i true) (i :: acc) (fun j => j == i || f j) (by simp [hs]) (fun j => by
        by_cases h : j = i
        · subst h; simp [Array.getD, hs, hi]
        · have : (j == i) = false := by simpa using h
          rw [this, Bool.false_or, ← hf j]
          by_cases hj : j < listed.size
          · simp [Array.getD, hj, Ne.symm h]
          · simp [Array.getD, hj])
      refine ⟨i :: l, by simpa using e1, ⟨hi, hfi, fun o hoi e he hb => ?_, e2⟩, ?_⟩
      · rw [hoi] at ho
        simp only [Option.map_some, Option.getD_some, Array.all_eq_true] at ho
        obtain ⟨k, hk, rfl⟩ := List.getElem_of_mem he
        have := ho k (by simpa using hk)
        simp only [Array.getElem_toList] at hb ⊢
        rw [hb] at this
        simpa using this
      · rcases e3 with e3 | e3
        · exact .inl (by simp [e3])
        · refine .inr ?_
          have hfun : (fun j => l.contains j || (j == i || f j)) = fun j => (i :: l).contains j || f j := by
            funext j
            simp only [List.contains_cons]
            cases (j == i) <;> cases l.contains j <;> simp
          rw [hfun] at e3
          exact e3

theorem Sched.all {m : Region.Mode} {ops : Array Oper} : ∀ {l : List Nat} {f : Nat → Bool}, Sched m ops f l → l.Nodup ∧ (∀ x, x ∈ l → x < ops.size ∧ f x = false) ∧
    l.Pairwise (fun a b => ∀ o, ops[a]? = some o → ∀ e, e ∈ o.after.toList → binds m e = true → e.on ≠ b)
  | [], _, _ => ⟨List.nodup_nil, (fun x hx => by cases hx), List.Pairwise.nil⟩
  | i :: l, f, ⟨h1, h2, h3, h4⟩ => by
    obtain ⟨g1, g2, g3⟩ := Sched.all h4
    refine ⟨List.nodup_cons.2 ⟨fun hi => ?_, g1⟩, fun x hx => ?_, List.pairwise_cons.2 ⟨fun b hb o ho e he hbd heq => ?_, g3⟩⟩
    · have := (g2 i hi).2; simp at this
    · rcases List.mem_cons.1 hx with rfl | hx
      · exact ⟨h1, h2⟩
      · have := g2 x hx
        simp only [Bool.or_eq_false_iff] at this
        exact ⟨this.1, this.2.2⟩
    · have hfb := (g2 b hb).2
      simp only [Bool.or_eq_false_iff] at hfb
      have := h3 o ho e he hbd
      rw [heq, hfb.2] at this
      cases this

/-- No ring among what waits: then all are listed. -/
theorem linearise_ok {m : Region.Mode} {ops : Array Oper} {rank : Nat → Nat} (hr : ∀ i o, ops[i]? = some o → ∀ e, e ∈ o.after.toList → binds m e = true → e.on < ops.size ∧ rank e.on < rank i) (t : Nat) :
    (List.range ops.size).Perm (linearise m ops t) ∧ (linearise m ops t).Pairwise (fun a b => ∀ o, ops[a]? = some o → ∀ e, e ∈ o.after.toList → binds m e = true → e.on ≠ b) := by
  obtain ⟨l, e1, e2, e3⟩ := go_spec m ops ops.size t (Array.replicate ops.size false) [] (fun _ => false) (by simp) (fun j => by simp [Array.getD])
  have hl : linearise m ops t = l := by simpa [linearise] using e1
  obtain ⟨g1, g2, g3⟩ := e2.all
  rw [hl]
  refine ⟨?_, g3⟩
  have hmem : ∀ i, i < ops.size → i ∈ l := by
    rcases e3 with e3 | e3
    · intro i hi
      have hp : l.Perm (List.range ops.size) := perm_of_sub g1 (fun x hx => by simpa using (g2 x hx).1) (by simp [e3])
      exact hp.symm.subset (by simpa using hi)
    · intro i
      induction hn : rank i using Nat.strongRecOn generalizing i with
      | _ n ih =>
        intro hi
        refine Decidable.byContradiction fun hni => ?_
        have : i ∈ nexts m ops (fun j => l.contains j || (fun _ => false) j) := by
          unfold nexts
          simp only [List.mem_filter, List.mem_range, Bool.and_eq_true, Bool.not_eq_true', Bool.or_false]
          refine ⟨hi, by simpa using hni, ?_⟩
          have ho : ops[i]? = some ops[i] := Array.getElem?_eq_getElem hi
          simp only [ho, Option.map_some, Option.getD_some, Array.all_eq_true]
          intro k hk
          cases hb : binds m ops[i].after[k]
          · simp
          · obtain ⟨h1, h2⟩ := hr i _ ho ops[i].after[k] (by simp) hb
            have := ih _ (by rw [← hn]; exact h2) ops[i].after[k].on rfl h1
            simp [this]
        rw [e3] at this
        cases this
  exact perm_of_sub List.nodup_range (fun x hx => hmem x (by simpa using hx)) (by
    have h1 : l.length ≤ ops.size := by
      have hp : ∀ {r s : List Nat}, r.Nodup → (∀ x, x ∈ r → x ∈ s) → r.length ≤ s.length := by
        intro r
        induction r with
        | nil => intro s _ _; simp
        | cons a r ih =>
          intro s hn hs
          rw [List.nodup_cons] at hn
          obtain ⟨s1, s2, rfl⟩ := List.append_of_mem (hs a (by simp))
          have := ih (s := s1 ++ s2) hn.2 (fun x hx => by
            have := hs x (by simp [hx])
            simp only [List.mem_append, List.mem_cons] at this ⊢
            rcases this with h | h | h
            · exact .inl h
            · subst h; exact absurd hx hn.1
            · exact .inr h)
          simp at this ⊢; omega
      have := hp (s := List.range ops.size) g1 (fun x hx => by simpa using (g2 x hx).1)
      simpa using this
    have h2 : ops.size ≤ l.length := by
      have hp : ∀ {r s : List Nat}, r.Nodup → (∀ x, x ∈ r → x ∈ s) → r.length ≤ s.length := by
        intro r
        induction r with
        | nil => intro s _ _; simp
        | cons a r ih =>
          intro s hn hs
          rw [List.nodup_cons] at hn
          obtain ⟨s1, s2, rfl⟩ := List.append_of_mem (hs a (by simp))
          have := ih (s := s1 ++ s2) hn.2 (fun x hx => by
            have := hs x (by simp [hx])
            simp only [List.mem_append, List.mem_cons] at this ⊢
            rcases this with h | h | h
            · exact .inl h
            · subst h; exact absurd hx hn.1
            · exact .inr h)
          simp at this ⊢; omega
      have := hp (r := List.range ops.size) (s := l) List.nodup_range (fun x hx => hmem x (by simpa using hx))
      simpa using this
    simp; omega)

/-! ### The machine's own order, and what waits for what -/
/-- The grounds that bind in each order. -/
def common (e : Edge) : Bool := match e.ground with | .textOnly _ => false | .gcOnly _ => false | _ => true
theorem binds_any (e : Edge) : binds .any e = common e := by
  unfold binds common
  cases e.ground <;> rfl
theorem binds_common {m : Region.Mode} {e : Edge} (h : common e = true) : binds m e = true := by
  unfold common at h
  unfold binds
  cases hg : e.ground <;> rw [hg] at h <;> first | rfl | cases h

/-- Which of the machine's operations stands for the model's. -/
def placeOf (vops : List O) (q : Nat) : Nat := vops.findIdx (·.pos == q)
def maskOf (vops : List O) (es : List Edge) : Nat :=
  es.foldr (fun e m => if common e then (1 <<< placeOf vops e.on) ||| ((vops[placeOf vops e.on]?).map O.bef).getD 0 ||| m else m) 0
def chkBef (mops : Array Oper) (vops : List O) : Nat → List O → Bool
  | _, [] => true
  | k, o :: os => (match mops[o.pos]? with
    | some x => (o.bef ||| maskOf vops x.after.toList) == maskOf vops x.after.toList && x.after.toList.all fun e => !common e || (decide (e.on < mops.size) && decide (placeOf vops e.on < k))
    | none => false) && chkBef mops vops (k + 1) os
/-- Has each operation of the model its one of the machine's? -/
def chkPos (mops : Array Oper) (vops : List O) : Bool := vops.length == mops.size && (List.range mops.size).all fun q => vops.any (·.pos == q)
/-- A rank by which no ring is among what waits, in a mode. -/
def chkRank (m : Region.Mode) (mops : Array Oper) (rank : Nat → Nat) : Bool :=
  (List.range mops.size).all fun i => match mops[i]? with
    | some x => x.after.toList.all fun e => !binds m e || (decide (e.on < mops.size) && decide (rank e.on < rank i))
    | none => true
def chkDraw (mops : Array Oper) (vops : List O) (g : List Nat) : Bool :=
  chkPos mops vops && chkBef mops vops 0 vops && (!departs mops || (chkRank .text mops id && chkRank .gc mops (fun i => g.idxOf i)))

theorem chkRank_ok {m : Region.Mode} {mops : Array Oper} {rank : Nat → Nat} (h : chkRank m mops rank = true) : ∀ i o, mops[i]? = some o → ∀ e, e ∈ o.after.toList → binds m e = true → e.on < mops.size ∧ rank e.on < rank i := by
  intro i o ho e he hb
  unfold chkRank at h
  have hi := (Array.getElem?_eq_some_iff.1 ho).1
  have := List.all_eq_true.1 h i (by simpa using hi)
  rw [ho] at this
  have := List.all_eq_true.1 this e he
  simpa [hb] using this

theorem placeOf_pos {vops : List O} {q : Nat} (h : ∃ o, o ∈ vops ∧ o.pos = q) : ∃ o, vops[placeOf vops q]? = some o ∧ o.pos = q := by
  unfold placeOf
  obtain ⟨o, ho, rfl⟩ := h
  have hlt : vops.findIdx (·.pos == o.pos) < vops.length := List.findIdx_lt_length_of_exists ⟨o, ho, by simp⟩
  refine ⟨_, List.getElem?_eq_getElem hlt, ?_⟩
  have := List.findIdx_getElem (w := hlt)
  simpa using this

theorem chkBef_ok {mops : Array Oper} {vops : List O} : ∀ {os : List O} {k : Nat}, chkBef mops vops k os = true → ∀ (i : Nat) (o : O), os[i]? = some o → ∃ x, mops[o.pos]? = some x ∧
    o.bef ||| maskOf vops x.after.toList = maskOf vops x.after.toList ∧ ∀ e, e ∈ x.after.toList → common e = true → e.on < mops.size ∧ placeOf vops e.on < k + i
  | [], _, _, i, o, h => by simp at h
  | y :: os, k, hk, i, o, h => by
    simp only [chkBef, Bool.and_eq_true] at hk
    obtain ⟨h1, h2⟩ := hk
    cases i with
    | zero =>
      simp at h; subst h
      split at h1
      · rename_i x hx
        simp only [Bool.and_eq_true, beq_iff_eq, List.all_eq_true, Bool.or_eq_true, Bool.not_eq_true', decide_eq_true_eq] at h1
        refine ⟨x, hx, h1.1, fun e he hc => ?_⟩
        rcases h1.2 e he with h | h
        · rw [hc] at h; cases h
        · exact ⟨h.1, by omega⟩
      · cases h1
    | succ i =>
      obtain ⟨x, e1, e2, e3⟩ := chkBef_ok h2 i o (by simpa using h)
      exact ⟨x, e1, e2, fun e he hc => by have := e3 e he hc; exact ⟨this.1, by omega⟩⟩

theorem maskOf_ok {vops : List O} {j : Nat} : ∀ {es : List Edge}, (maskOf vops es).testBit j = true → ∃ e, e ∈ es ∧ common e = true ∧ (placeOf vops e.on = j ∨ ∃ o, vops[placeOf vops e.on]? = some o ∧ o.bef.testBit j = true)
  | [], h => by simp [maskOf] at h
  | e :: es, h => by
    unfold maskOf at h
    rw [List.foldr_cons] at h
    change (if common e = true then _ ||| maskOf vops es else maskOf vops es).testBit j = true at h
    split at h
    · rename_i hc
      simp only [Nat.testBit_or, Bool.or_eq_true, Nat.one_shiftLeft] at h
      rcases h with (h | h) | h
      · rw [Nat.testBit_two_pow] at h
        exact ⟨e, by simp, hc, .inl (by simpa using h)⟩
      · cases ho : vops[placeOf vops e.on]? with
        | none => rw [ho] at h; simp at h
        | some o => rw [ho] at h; exact ⟨e, by simp, hc, .inr ⟨o, ho, by simpa using h⟩⟩
      · obtain ⟨e', h1, h2⟩ := maskOf_ok h
        exact ⟨e', by simp [h1], h2⟩
    · obtain ⟨e', h1, h2⟩ := maskOf_ok h
      exact ⟨e', by simp [h1], h2⟩

theorem idx_of_pairwise {R : Nat → Nat → Prop} : ∀ {l : List Nat}, l.Nodup → l.Pairwise R → ∀ {a b : Nat}, a ∈ l → b ∈ l → l.idxOf a < l.idxOf b → R a b
  | [], _, _, a, _, ha, _, _ => by cases ha
  | x :: l, hn, hp, a, b, ha, hb, h => by
    rw [List.nodup_cons] at hn
    rw [List.pairwise_cons] at hp
    by_cases hb' : b = x
    · subst hb'; simp [List.idxOf_cons] at h
    · have hbl : b ∈ l := by
        rcases List.mem_cons.1 hb with h1 | h1
        · exact absurd h1 hb'
        · exact h1
      by_cases ha' : a = x
      · subst ha'; exact hp.1 b hbl
      · have hal : a ∈ l := by
          rcases List.mem_cons.1 ha with h1 | h1
          · exact absurd h1 ha'
          · exact h1
        have e1 : (x == a) = false := by simpa using fun e => ha' e.symm
        have e2 : (x == b) = false := by simpa using fun e => hb' e.symm
        simp only [List.idxOf_cons, e1, e2, cond_false] at h
        exact idx_of_pairwise hn.2 hp.2 hal hbl (by omega)

theorem pairwise_idx {R : Nat → Nat → Prop} : ∀ {l : List Nat}, l.Nodup → (∀ a b, a ∈ l → b ∈ l → l.idxOf a < l.idxOf b → R a b) → l.Pairwise R
  | [], _, _ => List.Pairwise.nil
  | x :: l, hn, h => by
    rw [List.nodup_cons] at hn
    refine List.pairwise_cons.2 ⟨fun b hb => ?_, pairwise_idx hn.2 fun a b ha hb hlt => ?_⟩
    · have hne : (x == b) = false := by
        simpa using fun e => hn.1 (by rw [e]; exact hb)
      refine h x b (by simp) (by simp [hb]) ?_
      simp [List.idxOf_cons, hne]
    · have e1 : (x == a) = false := by simpa using fun e => hn.1 (by rw [e]; exact ha)
      have e2 : (x == b) = false := by simpa using fun e => hn.1 (by rw [e]; exact hb)
      refine h a b (by simp [ha]) (by simp [hb]) ?_
      simp only [List.idxOf_cons, e1, e2, cond_false]; omega

/-- An order that is drawn holds ahead what the machine's operations wait for. -/
theorem draw_ok {mops : Array Oper} {vops : List O} {g : List Nat} (h : chkDraw mops vops g = true) (mixed : Bool) (t : Nat) :
    (schedule mixed mops t).Perm (vops.map O.pos) ∧ (schedule mixed mops t).Nodup ∧
    (schedule mixed mops t).Pairwise (fun p q => ∀ (k j : Nat) (o y : O), vops[k]? = some o → o.pos = p → vops[j]? = some y → y.pos = q → o.bef.testBit j = false) := by
  simp only [chkDraw, Bool.and_eq_true] at h
  obtain ⟨⟨hp, hb⟩, hr⟩ := h
  simp only [chkPos, Bool.and_eq_true, beq_iff_eq, List.all_eq_true, List.mem_range, List.any_eq_true] at hp
  obtain ⟨hlen, hpos⟩ := hp
  have hbef := chkBef_ok hb
  have hpm : (List.range mops.size).Perm (vops.map O.pos) := perm_of_sub List.nodup_range (fun x hx => by
    obtain ⟨o, ho, e⟩ := hpos x (by simpa using hx)
    exact List.mem_map.2 ⟨o, ho, by simpa using e⟩) (by simp [hlen])
  have hnd : (vops.map O.pos).Nodup := hpm.nodup_iff.1 List.nodup_range
  have huniq : ∀ (k j : Nat) (o y : O), vops[k]? = some o → vops[j]? = some y → o.pos = y.pos → k = j := fun k j o y h1 h2 h3 => by
    have e1 : (vops.map O.pos)[k]? = some o.pos := by simp [h1]
    have e2 : (vops.map O.pos)[j]? = some y.pos := by simp [h2]
    have l1 := (List.getElem?_eq_some_iff.1 e1).1
    have l2 := (List.getElem?_eq_some_iff.1 e2).1
    exact (List.getElem_inj (h₀ := l1) (h₁ := l2) hnd).1 (by
      have a1 := (List.getElem?_eq_some_iff.1 e1).2
      have a2 := (List.getElem?_eq_some_iff.1 e2).2
      rw [a1, a2, h3])
  have hplace : ∀ (k : Nat) (o : O), vops[k]? = some o → placeOf vops o.pos = k := fun k o ho => by
    obtain ⟨y, h1, h2⟩ := placeOf_pos (vops := vops) ⟨o, List.mem_of_getElem? ho, rfl⟩
    exact huniq _ _ _ _ h1 ho h2
  have key : ∀ (m : Region.Mode) (rank : Nat → Nat) (t : Nat), (∀ i o, mops[i]? = some o → ∀ e, e ∈ o.after.toList → binds m e = true → e.on < mops.size ∧ rank e.on < rank i) →
      (linearise m mops t).Perm (vops.map O.pos) ∧ (linearise m mops t).Nodup ∧
      (linearise m mops t).Pairwise (fun p q => ∀ (k j : Nat) (o y : O), vops[k]? = some o → o.pos = p → vops[j]? = some y → y.pos = q → o.bef.testBit j = false) := by
    intro m rank t hrk
    obtain ⟨g1, g2⟩ := linearise_ok hrk t
    have hN : (linearise m mops t).Nodup := g1.nodup_iff.1 List.nodup_range
    refine ⟨g1.symm.trans hpm, hN, pairwise_idx hN fun p q hpl hql hlt k j o y hk hop hj hyq => ?_⟩
    -- what is waited for lies ahead
    have ahead : ∀ (n k : Nat) (o : O), k = n → vops[k]? = some o → ∀ (j : Nat) (y : O), vops[j]? = some y → o.bef.testBit j = true → (linearise m mops t).idxOf y.pos < (linearise m mops t).idxOf o.pos := by
      intro n
      induction n using Nat.strongRecOn with
      | _ n ih =>
        intro k o hkn ho j y hy hbit
        obtain ⟨x, e1, e2, e3⟩ := hbef k o ho
        have hm : (maskOf vops x.after.toList).testBit j = true := by
          rw [← e2, Nat.testBit_or, hbit, Bool.true_or]
        obtain ⟨e, he, hc, hcase⟩ := maskOf_ok hm
        obtain ⟨hon, hlt'⟩ := e3 e he hc
        rw [Nat.zero_add] at hlt'
        have hopos : o.pos < mops.size := (Array.getElem?_eq_some_iff.1 e1).1
        -- the edge itself
        have hdir : (linearise m mops t).idxOf e.on < (linearise m mops t).idxOf o.pos := by
          have hmo : o.pos ∈ linearise m mops t := g1.subset (by simpa using hopos)
          have hme : e.on ∈ linearise m mops t := g1.subset (by simpa using hon)
          rcases Nat.lt_trichotomy ((linearise m mops t).idxOf e.on) ((linearise m mops t).idxOf o.pos) with h | h | h
          · exact h
          · have : e.on = o.pos := by
              have l1 := List.idxOf_lt_length_of_mem hme
              have a1 := List.getElem_idxOf l1
              have l2 := List.idxOf_lt_length_of_mem hmo
              have a2 := List.getElem_idxOf l2
              rw [← a1, ← a2]; simp [h]
            have := (hrk _ _ e1 e he (binds_common hc)).2
            rw [‹e.on = o.pos›] at this; omega
          · exact absurd rfl (idx_of_pairwise hN g2 hmo hme h x e1 e he (binds_common hc))
        obtain ⟨z, hz1, hz2⟩ := placeOf_pos (vops := vops) (q := e.on) (by
          obtain ⟨o', ho', e'⟩ := hpos e.on hon
          exact ⟨o', ho', by simpa using e'⟩)
        rcases hcase with hcase | ⟨o', ho', hbit'⟩
        · rw [hcase] at hz1
          rw [hz1] at hy
          cases hy
          rw [hz2]; exact hdir
        · rw [hz1] at ho'
          cases ho'
          have := ih _ (by rw [← hkn]; exact hlt') _ z rfl hz1 j y hy hbit'
          rw [hz2] at this
          omega
    cases hbit : o.bef.testBit j with
    | false => rfl
    | true =>
      have := ahead k k o rfl hk j y hj hbit
      rw [hop, hyq] at this
      omega
  unfold schedule
  have hany : ∀ i o, mops[i]? = some o → ∀ e, e ∈ o.after.toList → binds .any e = true → e.on < mops.size ∧ placeOf vops e.on < placeOf vops i := fun i o ho e he hbd => by
    rw [binds_any] at hbd
    have hi := (Array.getElem?_eq_some_iff.1 ho).1
    obtain ⟨v, hv1, hv2⟩ := placeOf_pos (vops := vops) (q := i) (by
      obtain ⟨o', ho', e'⟩ := hpos i hi
      exact ⟨o', ho', by simpa using e'⟩)
    obtain ⟨x, e1, _, e3⟩ := hbef _ v hv1
    rw [hv2, ho] at e1
    cases e1
    have := e3 e he hbd
    exact ⟨this.1, by omega⟩
  split
  · exact key .any _ t hany
  · rename_i hmx
    have hd : departs mops = true := by
      cases hd : departs mops
      · rw [hd] at hmx; simp at hmx
      · rfl
    rw [hd] at hr
    simp only [Bool.not_true, Bool.false_or, Bool.and_eq_true] at hr
    split
    · exact key .text _ _ (chkRank_ok hr.1)
    · exact key .gc _ _ (chkRank_ok hr.2)
end Go.Vm
