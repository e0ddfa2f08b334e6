/- Operations of the machine: cuts of slices and strings, conversions, the greatest and the least. -/
import Derived.Test.YtjffpbodflkehaaGreatDoorOVmOpsC
set_option linter.unusedVariables false
set_option linter.unusedSimpArgs false
namespace Go.Vm
open Go.RowKit

section
variable {P : Program} {o : Oper} {ρ : Operand → Value} {w : World} {G : Gh} {H : List Blk} {pc : Nat → List D → Option D} {base : Nat}

def optOps (lo hi mx : Option Operand) : List Operand := lo.toList ++ (hi.toList ++ mx.toList)

theorem sliceBound_ok {k : IntKind} {i y : Nat} (h : i ≤ y) (c : BoundsCode) : (Instr.sliceBound (.int k i) y c).run P w = .ok i w := by
  simp [Instr.sliceBound, asIntOf, h]

/-- The bounds of a cut, as the model takes them. -/
theorem bounds_ok {b : Bool} {n len cap : Nat} {lo hi mx : Option Operand} {xs : List V} {l h : Nat} {m : Option Nat}
    (e : bounds n lo.isSome hi.isSome mx.isSome xs = some (l, h, m)) (hx : RVs w G H xs ((optOps lo hi mx).map ρ)) (hn : n ≤ cap) (hl : hi = none → l ≤ len) :
    (Instr.sliceBounds b len cap (lo.map ρ) (hi.map ρ) (mx.map ρ)).run P w = .ok (l, (if hi.isSome then h else len), m.getD cap) w ∧ l ≤ h ∧ h ≤ n ∧ (∀ q, m = some q → h ≤ q ∧ q ≤ n) ∧ (hi = none → h = n) ∧ (m.isSome = mx.isSome) := by
  cases lo <;> cases hi <;> cases mx <;> simp only [optOps, Option.toList, List.nil_append, List.singleton_append, List.cons_append, List.map_cons, List.map_nil] at hx <;>
    simp only [Option.isSome_none, Option.isSome_some] at e
  case none.none.none =>
    obtain rfl := RVs0 hx
    simp only [bounds, Option.some.injEq, Prod.mk.injEq] at e
    obtain ⟨rfl, rfl, rfl⟩ := e
    simp [Instr.sliceBounds]
  case some.none.none a =>
    obtain ⟨x, rfl, h1⟩ := RVs1 hx
    simp only [bounds, Option.bind_eq_some_iff] at e
    obtain ⟨i, hi, e⟩ := e
    split at e
    · cases e
      obtain ⟨k, hv⟩ := asNat_ok hi h1
      have := hl rfl
      refine ⟨?_, by assumption, Nat.le_refl _, by simp, by simp, rfl⟩
      simp only [Instr.sliceBounds, Option.map_none, Option.map_some, Sem.run_bind, Sem.run_pure, Result.andThen_ok, hv, sliceBound_ok this]
      simp
    · cases e
  case none.some.none a =>
    obtain ⟨x, rfl, h1⟩ := RVs1 hx
    simp only [bounds, Option.bind_eq_some_iff] at e
    obtain ⟨i, hi, e⟩ := e
    split at e
    · cases e
      rename_i hle
      obtain ⟨k, hv⟩ := asNat_ok hi h1
      refine ⟨?_, Nat.zero_le _, hle, by simp, by simp, rfl⟩
      simp only [Instr.sliceBounds, Option.map_none, Option.map_some, Sem.run_bind, Sem.run_pure, Result.andThen_ok, hv, sliceBound_ok (Nat.le_trans hle hn)]
      simp
    · cases e
  case some.some.none a b' =>
    obtain ⟨x, y, rfl, h1, h2⟩ := RVs2 hx
    simp only [bounds, Option.bind_eq_some_iff] at e
    obtain ⟨i, hi, j, hj, e⟩ := e
    split at e
    · cases e
      rename_i hle
      obtain ⟨k, hv⟩ := asNat_ok hi h1
      obtain ⟨k', hv'⟩ := asNat_ok hj h2
      refine ⟨?_, hle.1, hle.2, by simp, by simp, rfl⟩
      simp only [Instr.sliceBounds, Option.map_none, Option.map_some, Sem.run_bind, Sem.run_pure, Result.andThen_ok, hv, hv', sliceBound_ok (Nat.le_trans hle.2 hn), sliceBound_ok hle.1]
      simp
    · cases e
  case none.some.some a b' =>
    obtain ⟨x, y, rfl, h1, h2⟩ := RVs2 hx
    simp only [bounds, Option.bind_eq_some_iff] at e
    obtain ⟨i, hi, j, hj, e⟩ := e
    split at e
    · cases e
      rename_i hle
      obtain ⟨k, hv⟩ := asNat_ok hi h1
      obtain ⟨k', hv'⟩ := asNat_ok hj h2
      refine ⟨?_, Nat.zero_le _, Nat.le_trans hle.1 hle.2, fun q hq => by cases hq; exact hle, by simp, rfl⟩
      simp only [Instr.sliceBounds, Option.map_none, Option.map_some, Sem.run_bind, Sem.run_pure, Result.andThen_ok, hv, hv', sliceBound_ok (Nat.le_trans hle.2 hn), sliceBound_ok hle.1]
      simp
    · cases e
  case some.some.some a b' c' =>
    obtain ⟨x, y, z, rfl, h1, h2, h3⟩ := RVs3 hx
    simp only [bounds, Option.bind_eq_some_iff] at e
    obtain ⟨i, hi, j, hj, q, hq, e⟩ := e
    split at e
    · cases e
      rename_i hle
      obtain ⟨k, hv⟩ := asNat_ok hi h1
      obtain ⟨k', hv'⟩ := asNat_ok hj h2
      obtain ⟨k'', hv''⟩ := asNat_ok hq h3
      refine ⟨?_, hle.1, Nat.le_trans hle.2.1 hle.2.2, fun q hq => by cases hq; exact hle.2, by simp, rfl⟩
      simp only [Instr.sliceBounds, Option.map_none, Option.map_some, Sem.run_bind, Sem.run_pure, Result.andThen_ok, hv, hv', hv'', sliceBound_ok (Nat.le_trans hle.2.2 hn), sliceBound_ok hle.2.1, sliceBound_ok hle.1]
      simp
    · cases e
  all_goals simp [bounds] at e

theorem bounds_hi {n : Nat} {lo mx : Bool} {xs : List V} {l h : Nat} {m : Option Nat} (e : bounds n lo false mx xs = some (l, h, m)) : m = none := by
  unfold bounds at e
  split at e
  all_goals first
    | contradiction
    | (simp only [Option.some.injEq, Prod.mk.injEq] at e; exact e.2.2.symm)
    | (simp only [Option.bind_eq_some_iff] at e
       obtain ⟨_, _, e⟩ := e
       split at e <;> cases e
       rfl)
theorem bounds_le {n : Nat} {lo hi mx : Bool} {xs : List V} {l h : Nat} {m : Option Nat} (e : bounds n lo hi mx xs = some (l, h, m)) : l ≤ h ∧ h ≤ n := by
  unfold bounds at e
  split at e
  all_goals first
    | contradiction
    | (simp only [Option.some.injEq, Prod.mk.injEq] at e; omega)
    | (simp only [Option.bind_eq_some_iff] at e
       obtain ⟨_, _, e⟩ := e
       split at e <;> cases e
       omega)
    | (simp only [Option.bind_eq_some_iff] at e
       obtain ⟨_, _, _, _, e⟩ := e
       split at e <;> cases e
       omega)
    | (simp only [Option.bind_eq_some_iff] at e
       obtain ⟨_, _, _, _, _, _, e⟩ := e
       split at e <;> cases e
       omega)

theorem RDrows_drop {W : Nat → Option Nat} {g sz : Nat} : ∀ {rows : List (List D)} {p : Nat} (n : Nat), RDrows w W g sz p rows → RDrows w W g sz (p + n * sz) (rows.drop n)
  | [], p, n, _ => by simp only [List.drop_nil, RDrows]
  | r :: rs, p, 0, h => by simpa using h
  | r :: rs, p, n + 1, h => by
    simp only [RDrows] at h
    have := RDrows_drop n h.2.2
    rw [show p + sz + n * sz = p + (n + 1) * sz by rw [Nat.add_mul]; omega] at this
    simpa using this
theorem RDrows_take {W : Nat → Option Nat} {g sz : Nat} : ∀ {rows : List (List D)} {p : Nat} (n : Nat), RDrows w W g sz p rows → RDrows w W g sz p (rows.take n)
  | [], p, n, _ => by simp only [List.take_nil, RDrows]
  | r :: rs, p, 0, h => by simp only [List.take_zero, RDrows]
  | r :: rs, p, n + 1, h => by
    simp only [RDrows] at h
    simp only [List.take_succ_cons, RDrows]
    exact ⟨h.1, h.2.1, RDrows_take n h.2.2⟩
theorem RDrows_sz {W : Nat → Option Nat} {g sz : Nat} {rows : List (List D)} {p : Nat} (h : RDrows w W g sz p rows) (hn : rows ≠ []) {sz' : Nat} (hs : sized sz' rows = true) : sz' = sz := by
  cases rows with
  | nil => exact absurd rfl hn
  | cons r rs =>
    simp only [RDrows] at h
    simp only [sized, beq_iff_eq] at hs
    omega

/-- Rows whose first is of a size all are. -/
theorem RD_sized {W : Nat → Option Nat} {sz : Nat} {rows : List (List D)} {v : Value} (h : RD w W (.list rows) v) (hs : sized sz rows = true) : ∀ r, r ∈ rows → r.length = sz := by
  intro r hr
  simp only [RD] at h
  obtain ⟨A, cap, _, _, hn⟩ := h
  have hne : rows ≠ [] := fun e => by rw [e] at hr; cases hr
  obtain ⟨g, o, sz', _, hR⟩ := hn hne
  obtain rfl := RDrows_sz hR hne hs
  obtain ⟨i, hi⟩ := List.mem_iff_getElem?.1 hr
  exact (RDrows_get hR hi).1

/-- A cut of data. -/
theorem RD_cut {W : Nat → Option Nat} {rows : List (List D)} {A : Option Addr} {cap sz : Nat} (h : RD w W (.list rows) (.slice A rows.length cap)) (hs : sized sz rows = true) {l h' m : Nat} (h1 : l ≤ h') (h2 : h' ≤ rows.length) (h3 : h' ≤ m) :
    RD w W (.list ((rows.take h').drop l)) (.slice (if m = l then A else A.map (·.add (l * sz))) (h' - l) (m - l)) := by
  simp only [RD] at h ⊢
  obtain ⟨A', cap', e, hc, hn⟩ := h
  cases e
  refine ⟨if m = l then A else A.map (·.add (l * sz)), m - l, by simp [Nat.min_eq_left h2], by simp; omega, fun hne => ?_⟩
  have hlt : l < h' := by
    rcases Nat.lt_or_ge l h' with h | h
    · exact h
    · exact absurd (List.drop_eq_nil_iff.2 (by simp; omega)) hne
  obtain ⟨g, p, sz', rfl, hR⟩ := hn (by intro h; subst h; simp at h2; omega)
  have hsz : sz = sz' := RDrows_sz hR (by intro h; subst h; simp at h2; omega) hs
  subst hsz
  refine ⟨g, p + l * sz, sz, ?_, RDrows_drop l (RDrows_take h' hR)⟩
  rw [if_neg (by omega), Option.map_some, add_lit']

theorem op_sub {t : TypeId} {sz : Nat} {x : Operand} {lo hi mx : Option Operand} {xs : List V} (ho : o.op = .slice t x lo hi mx) (he : okElem P t sz = true)
    (hx : RVs w G H xs ((x :: optOps lo hi mx).map ρ)) (hs : HS G H w) : Good P o ρ w G H (act pc base (.sub sz lo.isSome hi.isSome mx.isSome) xs) := by
  obtain ⟨el, hu, hz⟩ := okElem_ok he
  have hz := okSize_ok hz
  rw [List.map_cons] at hx
  obtain ⟨vx, xs, rfl, h1, hxs⟩ := RVs_two hx
  have hrun : ∀ A n c l h m, ρ x = .slice A n c → (Instr.sliceBounds true n c (lo.map ρ) (hi.map ρ) (mx.map ρ)).run P w = .ok (l, h, m) w →
      (execOp ρ o).run P w = .ok (.value (.slice (if m = l then A else A.map (·.add (l * sz))) (h - l) (m - l))) w := fun A n c l h m hp hb => by
    simp only [execOp, ho, Instr.sliceAt, Sem.run_bind, run_underlying hu, Result.andThen_ok, Instr.slice, hp, hb, hz]
    rfl
  by_cases harr : ∃ b ver sz' off len, vx = .arr b ver sz' off len
  · obtain ⟨b, ver, sz', off, len, rfl⟩ := harr
    simp only [act, aC, aSub]
    intro r H' e
    simp only [Eff.run] at e
    split at e
    · rename_i ver' cells hb
      simp only [Eff.run, Option.map_eq_some_iff, Prod.mk.injEq] at e
      obtain ⟨r', e, rfl, rfl⟩ := e
      split at e
      · cases e
      · rename_i hc
        have hver : ver = ver' := Classical.byContradiction fun h => hc (.inl h)
        have hszz : sz' = sz := Classical.byContradiction fun h => hc (.inr h)
        subst hver hszz
        have h1' := h1
        simp only [RV] at h1
        obtain ⟨⟨_, _, _, _⟩, hd, hm⟩ := h1
        obtain ⟨a, cap, cs, hp, hlc, ha, hab, hh, hcap⟩ := (hm _ _ hb).2 rfl
        obtain ⟨cs', hh', hl', _, _, _⟩ := BR.read hs hb
        obtain rfl := hh.uniq hh'
        simp only [Option.bind_eq_some_iff, Prod.exists] at e
        obtain ⟨l, h, m, hb', e⟩ := e
        have hn : (cells.length - off) / sz' ≤ cap := by
          rcases Nat.eq_zero_or_pos sz' with h0 | h0
          · subst h0; simp
          · refine Nat.div_le_of_le_mul ?_
            have : cells.length - off ≤ cap * sz' := by omega
            rwa [Nat.mul_comm]
        split at e
        · rename_i l' h' heq
          injection heq with e1 e2
          injection e2 with e2 e3
          subst e1 e2 e3
          simp only [Option.ite_none_right_eq_some, Option.some.injEq] at e
          obtain ⟨hle, rfl⟩ := e
          have hl : hi = none → l ≤ len := fun h => by subst h; simpa using hle
          obtain ⟨hbr, _, hhn, _, _, _⟩ := bounds_ok (P := P) (b := true) (len := len) hb' hxs hn hl
          refine Does.value (hrun _ _ _ _ _ _ hp hbr) (Post.ret ?_ hs)
          have hH : (if hi.isSome = true then h else len) ≤ cap := by split <;> omega
          simp only [Option.getD_none, RV]
          refine ⟨?_, hd, fun ver' cells' he => ?_⟩
          · by_cases hq : cap = l
            · rw [if_pos hq]; exact ⟨a, _, rfl, by omega⟩
            · rw [if_neg hq]; exact ⟨_, _, rfl, by omega⟩
          · rw [hb] at he; cases he
            refine ⟨Nat.le_refl _, fun _ => ?_⟩
            by_cases hq : cap = l
            · rw [if_pos hq]
              exact ⟨a, _, cs, rfl, by omega, fun h => by omega, hab, hh, by rw [hq]; simp; rw [← hcap, hq]⟩
            · rw [if_neg hq, ha (by omega), Option.map_some, add_lit']
              exact ⟨_, _, cs, rfl, by omega, fun _ => rfl, rfl, hh, by rw [← hcap, Nat.sub_mul]; have : l * sz' ≤ cap * sz' := Nat.mul_le_mul_right _ (by omega); omega⟩
        · rename_i l' h' m' heq
          injection heq with e1 e2
          injection e2 with e2 e3
          subst e1 e2 e3
          cases e
          have hhi : hi ≠ none := by
            intro h; subst h
            have := bounds_hi hb'
            cases this
          obtain ⟨hbr, _⟩ := bounds_ok (P := P) (b := true) (len := len) hb' hxs hn (fun h => absurd h hhi)
          exact Does.value (hrun _ _ _ _ _ _ hp hbr) (Post.ret (by simp only [RV]) hs)
    · simp only [Eff.run] at e; cases e
  · by_cases hn0 : vx = .nilS
    · subst hn0
      simp only [act, aC, aSub]
      refine Good.opt hs fun r e => ?_
      simp only [Option.map_eq_some_iff, Prod.exists] at e
      obtain ⟨l, h, m, hb, rfl⟩ := e
      have hp : ρ x = .slice none 0 0 := by simpa only [RV] using h1
      obtain ⟨hbr, hlh, hhn, hmq, hhi, _⟩ := bounds_ok (P := P) (b := true) (len := 0) (cap := 0) hb hxs (Nat.le_refl _) (fun _ => by have := bounds_le hb; omega)
      refine ⟨_, hrun _ _ _ _ _ _ hp hbr, ?_⟩
      have hl0 : l = 0 := by omega
      have hh0 : h = 0 := by omega
      subst hl0 hh0
      have hm0 : m.getD 0 = 0 := by
        cases m with
        | none => rfl
        | some q => have := (hmq q rfl).2; simp; omega
      rw [hm0]
      simp only [if_true, ite_self, RV]
    · by_cases he0 : vx = .e0
      · subst he0
        simp only [act, aC, aSub]
        refine Good.opt hs fun r e => ?_
        simp only [Option.map_eq_some_iff, Prod.exists] at e
        obtain ⟨l, h, m, hb, rfl⟩ := e
        have hp : ∃ A, ρ x = .slice A 0 0 := by simpa only [RV] using h1
        obtain ⟨A, hp⟩ := hp
        obtain ⟨hbr, hlh, hhn, hmq, hhi, _⟩ := bounds_ok (P := P) (b := true) (len := 0) (cap := 0) hb hxs (Nat.le_refl _) (fun _ => by have := bounds_le hb; omega)
        refine ⟨_, hrun _ _ _ _ _ _ hp hbr, ?_⟩
        have hl0 : l = 0 := by omega
        have hh0 : h = 0 := by omega
        subst hl0 hh0
        have hm0 : m.getD 0 = 0 := by
          cases m with
          | none => rfl
          | some q => have := (hmq q rfl).2; simp; omega
        rw [hm0]
        simp only [if_true, ite_self, RV]
        exact ⟨_, rfl⟩
      · have hact : act pc base (.sub sz lo.isSome hi.isSome mx.isSome) (vx :: xs) = .ret ((rowsOf vx).bind fun rows => if sized sz rows then (bounds rows.length lo.isSome hi.isSome mx.isSome xs).map fun (l, h, m) =>
            if m = some l then .e0 else .d (.list ((rows.take h).drop l)) else none) := by
          cases vx <;> first
            | rfl
            | exact absurd ⟨_, _, _, _, _, rfl⟩ harr
            | exact absurd rfl hn0
            | exact absurd rfl he0
        rw [hact]
        refine Good.opt hs fun r e => ?_
        simp only [Option.bind_eq_some_iff] at e
        obtain ⟨rows, hr, e⟩ := e
        split at e
        · rename_i hsz
          simp only [Option.map_eq_some_iff, Prod.exists] at e
          obtain ⟨l, h, m, hb, rfl⟩ := e
          have hd := rowsOf_ok hr h1
          have hd' := hd
          simp only [RD] at hd'
          obtain ⟨A, cap, hp, hcap, _⟩ := hd'
          rw [hp] at hd
          obtain ⟨hbr, hlh, hhn, hmq, hhi, _⟩ := bounds_ok (P := P) (b := true) (len := rows.length) hb hxs hcap (fun _ => by have := bounds_le hb; omega)
          refine ⟨_, hrun _ _ _ _ _ _ hp hbr, ?_⟩
          have hH : (if hi.isSome = true then h else rows.length) = h := by
            cases hi with
            | none => simp [hhi rfl]
            | some _ => rfl
          rw [hH]
          have hM : h ≤ m.getD cap := by
            cases m with
            | none => simp; omega
            | some q => exact (hmq q rfl).1
          by_cases hm : m = some l
          · subst hm
            simp only [if_true, RV, Option.getD_some]
            have : h - l = 0 := by have := (hmq l rfl).1; omega
            rw [this, Nat.sub_self]
            exact ⟨_, rfl⟩
          · rw [if_neg hm]
            simp only [RV]
            exact RD_cut hd hsz hlh hhn hM
        · cases e
end
end Go.Vm
