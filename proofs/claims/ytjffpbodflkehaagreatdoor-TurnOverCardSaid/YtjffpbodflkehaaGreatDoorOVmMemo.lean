/- A program of the machine in which some calls are told by what they answered before. -/
import Derived.Test.YtjffpbodflkehaaGreatDoorOVmCps
import Derived.Test.YtjffpbodflkehaaGreatDoorOVmCall
set_option linter.unusedVariables false
set_option linter.unusedSimpArgs false
namespace Go.Vm

/-! ### Are two data the same? -/
noncomputable def eqK (k k' : IntKind) : Bool := Nat.beq (ki k) (ki k')
mutual
def eqD2 : D → D → Bool
  | .int k a, .int k' b => decide (k = k') && decide (a = b)
  | .bool a, .bool b => a == b
  | .str a, .str b => a == b
  | .agg a, .agg b => eqL2 a b
  | .tup a, .tup b => eqL2 a b
  | .list a, .list b => eqR2 a b
  | .nilI, .nilI => true
  | .nilp, .nilp => true
  | _, _ => false
def eqL2 : List D → List D → Bool
  | [], [] => true
  | x :: a, y :: b => eqD2 x y && eqL2 a b
  | _, _ => false
def eqR2 : List (List D) → List (List D) → Bool
  | [], [] => true
  | x :: a, y :: b => eqL2 x y && eqR2 a b
  | _, _ => false
end
mutual
theorem eqD2_ok : ∀ a b : D, eqD2 a b = true → a = b
  | .int k a, .int k' b, h => by simp only [eqD2, Bool.and_eq_true, decide_eq_true_eq] at h; rw [h.1, h.2]
  | .bool a, .bool b, h => by simp only [eqD2, beq_iff_eq] at h; rw [h]
  | .str a, .str b, h => by simp only [eqD2, beq_iff_eq] at h; rw [h]
  | .agg a, .agg b, h => by simp only [eqD2] at h; rw [eqL2_ok a b h]
  | .tup a, .tup b, h => by simp only [eqD2] at h; rw [eqL2_ok a b h]
  | .list a, .list b, h => by simp only [eqD2] at h; rw [eqR2_ok a b h]
  | .nilI, .nilI, _ => rfl
  | .nilp, .nilp, _ => rfl
  | .int .., .bool _, h | .int .., .str _, h | .int .., .agg _, h | .int .., .tup _, h | .int .., .list _, h | .int .., .nilI, h | .int .., .ifc .., h | .int .., .ref _, h | .int .., .nilp, h => by simp [eqD2] at h
  | .bool _, .int .., h | .bool _, .str _, h | .bool _, .agg _, h | .bool _, .tup _, h | .bool _, .list _, h | .bool _, .nilI, h | .bool _, .ifc .., h | .bool _, .ref _, h | .bool _, .nilp, h => by simp [eqD2] at h
  | .str _, .int .., h | .str _, .bool _, h | .str _, .agg _, h | .str _, .tup _, h | .str _, .list _, h | .str _, .nilI, h | .str _, .ifc .., h | .str _, .ref _, h | .str _, .nilp, h => by simp [eqD2] at h
  | .agg _, .int .., h | .agg _, .bool _, h | .agg _, .str _, h | .agg _, .tup _, h | .agg _, .list _, h | .agg _, .nilI, h | .agg _, .ifc .., h | .agg _, .ref _, h | .agg _, .nilp, h => by simp [eqD2] at h
  | .tup _, .int .., h | .tup _, .bool _, h | .tup _, .str _, h | .tup _, .agg _, h | .tup _, .list _, h | .tup _, .nilI, h | .tup _, .ifc .., h | .tup _, .ref _, h | .tup _, .nilp, h => by simp [eqD2] at h
  | .list _, .int .., h | .list _, .bool _, h | .list _, .str _, h | .list _, .agg _, h | .list _, .tup _, h | .list _, .nilI, h | .list _, .ifc .., h | .list _, .ref _, h | .list _, .nilp, h => by simp [eqD2] at h
  | .nilI, .int .., h | .nilI, .bool _, h | .nilI, .str _, h | .nilI, .agg _, h | .nilI, .tup _, h | .nilI, .list _, h | .nilI, .ifc .., h | .nilI, .ref _, h | .nilI, .nilp, h => by simp [eqD2] at h
  | .ifc .., _, h => by simp [eqD2] at h
  | .ref _, _, h => by simp [eqD2] at h
  | .nilp, .int .., h | .nilp, .bool _, h | .nilp, .str _, h | .nilp, .agg _, h | .nilp, .tup _, h | .nilp, .list _, h | .nilp, .nilI, h | .nilp, .ifc .., h | .nilp, .ref _, h => by simp [eqD2] at h
theorem eqL2_ok : ∀ a b : List D, eqL2 a b = true → a = b
  | [], [], _ => rfl
  | x :: a, y :: b, h => by simp only [eqL2, Bool.and_eq_true] at h; rw [eqD2_ok x y h.1, eqL2_ok a b h.2]
  | [], _ :: _, h => by simp [eqL2] at h
  | _ :: _, [], h => by simp [eqL2] at h
theorem eqR2_ok : ∀ a b : List (List D), eqR2 a b = true → a = b
  | [], [], _ => rfl
  | x :: a, y :: b, h => by simp only [eqR2, Bool.and_eq_true] at h; rw [eqL2_ok x y h.1, eqR2_ok a b h.2]
  | [], _ :: _, h => by simp [eqR2] at h
  | _ :: _, [], h => by simp [eqR2] at h
end

/-- What is remembered: of each call the function, its arguments, its answer. -/
abbrev Memo := List (Nat × List D × D)
def memo : Memo → Nat → List D → Option D
  | [], _, _ => none
  | e :: l, j, ds => match Nat.beq e.1 j with
    | true => (match eqL2 e.2.1 ds with | true => some e.2.2 | false => memo l j ds)
    | false => memo l j ds
theorem memo_mem : ∀ {l : Memo} {j : Nat} {ds : List D} {r : D}, memo l j ds = some r → (j, ds, r) ∈ l
  | [], _, _, _, h => by cases h
  | e :: l, j, ds, r, h => by
    obtain ⟨j', ds', r'⟩ := e
    simp only [memo] at h
    split at h
    · rename_i hj
      split at h
      · rename_i hd
        cases h
        have := Nat.eq_of_beq_eq_true hj
        subst this
        rw [eqL2_ok _ _ hd]
        exact List.mem_cons_self
      · exact List.mem_cons_of_mem _ (memo_mem h)
    · exact List.mem_cons_of_mem _ (memo_mem h)
/-- Does a function stand among those that are remembered? -/
noncomputable def named (l : List Nat) (j : Nat) : Bool := List.rec false (fun x _ ih => Bool.rec ih true (Nat.beq x j)) l
noncomputable def ProgS.with (Φ : ProgS) (fs : List Nat) (l : Memo) : ProgS := ⟨fun j => Bool.rec (Φ.leaf j) none (named fs j), fun j ds => Bool.rec (Φ.prim j ds) (memo l j ds) (named fs j)⟩
/-- What is remembered was so. -/
def Memo.ok (Φ : ProgS) (l : Memo) : Prop := ∀ e, e ∈ l → ∃ k, pcallS Φ k e.1 e.2.1 = some e.2.2
theorem with_ok {P : Program} {E : Env} {Φ : ProgS} (h : ProgOK P E Φ.prog) {fs : List Nat} {l : Memo} (hl : l.ok Φ) : ProgOK P E (Φ.with fs l).prog where
  fn j fn hj := by
    refine h.fn j fn ?_
    simp only [ProgS.prog, ProgS.with] at hj ⊢
    cases hn : named fs j with
    | false => rw [hn] at hj; exact hj
    | true => rw [hn] at hj; cases hj
  fid := h.fid
  prim j ds r hj hr := by
    simp only [ProgS.prog, ProgS.with] at hj hr
    cases hn : named fs j with
    | false =>
      rw [hn] at hj hr
      exact h.prim j ds r hj hr
    | true =>
      rw [hn] at hr
      obtain ⟨k, hk⟩ := hl _ (memo_mem hr)
      simp only at hk
      rw [pcallS_eq] at hk
      exact pcall_ok h k j ds r hk
  spec := h.spec
end Go.Vm
