/- Regions whose order is drawn, of operations that may never meet. -/
import Derived.Test.YtjffpbodflkehaaGreatDoorOVmConf
set_option linter.unusedVariables false
set_option linter.unusedSimpArgs false
namespace Go.Vm

/-- What an operation touches: nothing (0), what it reads alone (1), more (2). -/
def tchK (k : K) : Nat := match k with
  | .mov => 0 | .pick => 0 | .build .. => 0 | .bsl .. => 0 | .nilchk => 0 | .bin _ => 0 | .eqn .. => 0 | .beq .. => 0 | .un _ => 0
  | .toInt _ => 0 | .toStr => 0 | .toBytes => 0 | .same => 0 | .mkF _ => 0 | .subStr .. => 0 | .fld _ => 0 | .fldv .. => 0 | .ix _ => 0 | .ixs => 0
  | .ext _ => 0 | .call _ => 0 | .cap => 0 | .mkro .. => 0 | .max => 0 | .min => 0
  | .len kd => match kd with | 0 => 0 | 1 => 0 | _ => 1
  | .sub .. => 1 | .load .. => 1 | .mapGet .. => 1
  | _ => 2
def statC (a b : K) : Bool := tchK a == 0 || tchK b == 0 || (decide (tchK a ≤ 1) && decide (tchK b ≤ 1))

def RO (e : Eff) : Prop := ∀ H v H', e.run H = some (v, H') → H' = H
theorem RO.ret {v : Option V} : RO (.ret v) := fun H u H' h => by
  simp only [Eff.run, Option.map_eq_some_iff, Prod.mk.injEq] at h
  obtain ⟨_, _, _, rfl⟩ := h; rfl
theorem RO.get {b : Nat} {f : Blk → Eff} (h : ∀ x, RO (f x)) : RO (.get b f) := fun H u H' hr => h _ H u H' hr
theorem RO.a1 {xs : List V} {f : V → Eff} (h : ∀ x, RO (f x)) : RO (a1 xs f) := by
  unfold Go.Vm.a1; split
  · exact h _
  · exact RO.ret
theorem RO.a2 {xs : List V} {f : V → V → Eff} (h : ∀ x y, RO (f x y)) : RO (a2 xs f) := by
  unfold Go.Vm.a2; split
  · exact h _ _
  · exact RO.ret
theorem RO.aC {xs : List V} {f : V → List V → Eff} (h : ∀ x y, RO (f x y)) : RO (aC xs f) := by
  unfold Go.Vm.aC; split
  · exact h _ _
  · exact RO.ret

def Pure (e : Eff) : Prop := ∃ v, e = .ret v
theorem Pure.ret {v : Option V} : Pure (.ret v) := ⟨v, rfl⟩
theorem Pure.a1 {xs : List V} {f : V → Eff} (h : ∀ x, Pure (f x)) : Pure (a1 xs f) := by
  unfold Go.Vm.a1; split
  · exact h _
  · exact Pure.ret
theorem Pure.a2 {xs : List V} {f : V → V → Eff} (h : ∀ x y, Pure (f x y)) : Pure (a2 xs f) := by
  unfold Go.Vm.a2; split
  · exact h _ _
  · exact Pure.ret
theorem Pure.a3 {xs : List V} {f : V → V → V → Eff} (h : ∀ x y z, Pure (f x y z)) : Pure (a3 xs f) := by
  unfold Go.Vm.a3; split
  · exact h _ _ _
  · exact Pure.ret
theorem Pure.aC {xs : List V} {f : V → List V → Eff} (h : ∀ x y, Pure (f x y)) : Pure (aC xs f) := by
  unfold Go.Vm.aC; split
  · exact h _ _
  · exact Pure.ret
theorem Pure.ro {e : Eff} (h : Pure e) : RO e := by obtain ⟨v, rfl⟩ := h; exact RO.ret

variable (pc : Nat → List D → Option D) (ic : Nat → List V → List Blk → Option (V × List Blk))

theorem act_pure {base : Nat} {k : K} {xs : List V} (h : tchK k = 0) : Pure (act pc base k xs) := by
  cases k <;> first
    | (simp [tchK] at h; done)
    | exact Pure.ret
    | exact Pure.a1 fun _ => Pure.ret
    | exact Pure.a2 fun _ _ => Pure.ret
    | exact Pure.a3 fun _ _ _ => Pure.ret
    | exact Pure.aC fun _ _ => Pure.ret
    | skip
  case len kd =>
    match kd, h with
    | 0, _ => exact Pure.a1 fun _ => Pure.ret
    | 1, _ => exact Pure.a1 fun _ => Pure.ret
    | n + 2, h => simp [tchK] at h

theorem act_ro {base : Nat} {k : K} {xs : List V} (h : tchK k ≤ 1) : RO (act pc base k xs) := by
  by_cases h0 : tchK k = 0
  · exact (act_pure pc h0).ro
  · cases k <;> first
      | (simp [tchK] at h h0; done)
      | skip
    case load agg n =>
      refine RO.a1 fun a => ?_
      rw [aLoad_eq]; unfold sLoad; split
      · exact RO.get fun x => by split <;> exact RO.ret
      · exact RO.ret
      · exact RO.ret
    case mapGet zero ok =>
      refine RO.a2 fun a b => ?_
      unfold aMapGet; split
      · exact RO.get fun x => by split <;> exact RO.ret
      · exact RO.ret
    case sub sz lo hi mx =>
      refine RO.aC fun a b => ?_
      unfold aSub; split
      · exact RO.get fun x => by split <;> exact RO.ret
      · exact RO.ret
      · exact RO.ret
      · exact RO.ret
    case len kd =>
      refine RO.a1 fun a => ?_
      rw [aLen_eq]; unfold lenV; split
      · exact RO.ret
      · exact RO.ret
      · unfold lenMap; split
        · exact RO.get fun x => by split <;> exact RO.ret
        · exact RO.ret
      · exact RO.ret

theorem exec_pure {hid : List Nat} {base : Nat} {k : K} {xs : List V} (h : tchK k = 0) : ∃ v : Option V, ∀ H, exec pc ic hid k base xs H = v.map fun v => (v, H) := by
  obtain ⟨v, hv⟩ := act_pure pc (base := base) (xs := xs) h
  refine ⟨v, fun H => ?_⟩
  rw [deed_plain pc ic (by cases k <;> first | rfl | (simp [tchK] at h; done)), hv]
  rfl
theorem exec_ro {hid : List Nat} {base : Nat} {k : K} {xs : List V} (h : tchK k ≤ 1) {H H' : List Blk} {v : V} (he : exec pc ic hid k base xs H = some (v, H')) : H' = H := by
  rw [deed_plain pc ic (by cases k <;> first | rfl | (simp [tchK] at h; done))] at he
  exact act_ro pc h H v H' he

theorem exec_comm {ha hb : List Nat} {a b : K} {base : Nat} {xs ys : List V} {H H1 H2 : List Blk} {v u : V} (h1 : exec pc ic ha a base xs H = some (v, H1)) (h2 : exec pc ic hb b base ys H1 = some (u, H2)) (hc : statC a b = true) :
    ∃ H1', exec pc ic hb b base ys H = some (u, H1') ∧ exec pc ic ha a base xs H1' = some (v, H2) := by
  simp only [statC, Bool.or_eq_true, Bool.and_eq_true, beq_iff_eq, decide_eq_true_eq] at hc
  rcases hc with (hc | hc) | ⟨hc1, hc2⟩
  · obtain ⟨v0, hv⟩ := exec_pure pc ic (hid := ha) (base := base) (xs := xs) hc
    rw [hv] at h1
    simp only [Option.map_eq_some_iff, Prod.mk.injEq] at h1
    obtain ⟨v1, e, rfl, rfl⟩ := h1
    exact ⟨H2, h2, by rw [hv, e]; rfl⟩
  · obtain ⟨v0, hv⟩ := exec_pure pc ic (hid := hb) (base := base) (xs := ys) hc
    rw [hv] at h2
    simp only [Option.map_eq_some_iff, Prod.mk.injEq] at h2
    obtain ⟨v1, e, rfl, rfl⟩ := h2
    exact ⟨H, by rw [hv, e]; rfl, h1⟩
  · have e1 := exec_ro pc ic hc1 h1
    have e2 := exec_ro pc ic hc2 h2
    subst e1 e2
    exact ⟨_, h2, h1⟩

theorem oper_swap {a b : O} {ha hb : List Nat} {S S1 S2 : St} (h1 : oper pc ic ha a S = some S1) (h2 : oper pc ic hb b S1 = some S2) (hi : ind a b = true) (hc : statC a.op b.op = true) :
    ∃ S1', oper pc ic hb b S = some S1' ∧ oper pc ic ha a S1' = some S2 := by
  obtain ⟨i1, i2⟩ := ind_ok hi
  have eb : ∀ (v : V), evs (put S.tmps a.dst v) b.args = evs S.tmps b.args := fun v => evs_put (fun n hn => reads_args (i1 n hn).1)
  have wb : ∀ (v : V), want (put S.tmps a.dst v) b.guard = want S.tmps b.guard := fun v => want_put (fun n hn => reads_guard (i1 n hn).1)
  have ea : ∀ (v : V), evs (put S.tmps b.dst v) a.args = evs S.tmps a.args := fun v => evs_put (fun n hn => reads_args (i2 n hn))
  have wa : ∀ (v : V), want (put S.tmps b.dst v) a.guard = want S.tmps a.guard := fun v => want_put (fun n hn => reads_guard (i2 n hn))
  have pcm : ∀ (x y : V), put (put S.tmps b.dst y) a.dst x = put (put S.tmps a.dst x) b.dst y := fun x y => (put_comm (fun n hn => (i1 n hn).2)).symm
  simp only [oper, Option.bind_eq_some_iff] at h1 h2
  obtain ⟨ga, hga, h1⟩ := h1
  obtain ⟨gb, hgb, h2⟩ := h2
  cases ga
  · simp only [Bool.false_eq_true, if_false, Option.some.injEq] at h1
    subst h1
    simp only [wb] at hgb
    cases gb
    · simp only [Bool.false_eq_true, if_false, Option.some.injEq] at h2
      subst h2
      exact ⟨{ S with tmps := put S.tmps b.dst undefV }, by simp [oper, hgb], by simp [oper, wa, hga, pcm]⟩
    · simp only [if_true, Option.map_eq_some_iff] at h2
      obtain ⟨⟨u, H2⟩, h2, rfl⟩ := h2
      simp only [eb] at h2
      exact ⟨{ S with tmps := put S.tmps b.dst u, heap := H2 }, by simp [oper, hgb, h2], by simp [oper, wa, hga, pcm]⟩
  · simp only [if_true, Option.map_eq_some_iff] at h1
    obtain ⟨⟨v, H1⟩, h1, rfl⟩ := h1
    simp only [wb] at hgb
    cases gb
    · simp only [Bool.false_eq_true, if_false, Option.some.injEq] at h2
      subst h2
      exact ⟨{ S with tmps := put S.tmps b.dst undefV }, by simp [oper, hgb], by simp [oper, wa, hga, ea, h1, pcm]⟩
    · simp only [if_true, Option.map_eq_some_iff] at h2
      obtain ⟨⟨u, H2⟩, h2, rfl⟩ := h2
      simp only [eb] at h2
      obtain ⟨H1', d1, d2⟩ := exec_comm pc ic h1 h2 hc
      exact ⟨{ S with tmps := put S.tmps b.dst u, heap := H1' }, by simp [oper, hgb, d1], by simp [oper, wa, hga, ea, d2, pcm]⟩

theorem runA_under {L L' : List A} : ∀ {K : List A} {S S' : St}, (∀ S S', runA pc ic L S = some S' → runA pc ic L' S = some S') → runA pc ic (K ++ L) S = some S' → runA pc ic (K ++ L') S = some S'
  | [], _, _, h, k => h _ _ k
  | x :: K, S, S', h, k => by
    simp only [List.cons_append, runA, Option.bind_eq_some_iff] at k ⊢
    obtain ⟨S1, k1, k2⟩ := k
    exact ⟨S1, k1, runA_under h k2⟩

theorem runA_front {z : A} {B : List A} : ∀ {K : List A} {S S' : St}, (∀ a, a ∈ K → ind a.o z.o = true ∧ statC a.o.op z.o.op = true) → runA pc ic (K ++ z :: B) S = some S' → runA pc ic (z :: (K ++ B)) S = some S'
  | [], _, _, _, k => k
  | x :: K, S, S', h, k => by
    have h1 := h x (by simp)
    have k1 : runA pc ic ([x] ++ (z :: (K ++ B))) S = some S' := runA_under pc ic (K := [x]) (fun S S' k => runA_front (fun a ha => h a (by simp [ha])) k) k
    simp only [List.cons_append, List.nil_append, runA, Option.bind_eq_some_iff] at k1 ⊢
    obtain ⟨S1, a1, S2, a2, a3⟩ := k1
    obtain ⟨S1', b1, b2⟩ := oper_swap pc ic a1 a2 h1.1 h1.2
    exact ⟨S1', b1, S2, b2, a3⟩

/-- Whatever order is drawn, the same comes of it. -/
theorem runA_any : ∀ {L' L : List A} {S S' : St}, L'.Perm L → L'.Pairwise (fun z y => z.o.bef.testBit y.i = false) →
    L.Pairwise (fun a b => b.o.bef.testBit a.i = true ∨ (ind a.o b.o = true ∧ statC a.o.op b.o.op = true)) → runA pc ic L S = some S' → runA pc ic L' S = some S'
  | [], L, S, S', hp, _, _, h => by
    have : L = [] := hp.symm.eq_nil
    subst this; exact h
  | z :: L', L, S, S', hp, ho, hs, h => by
    have hz : z ∈ L := hp.subset (by simp)
    obtain ⟨K, B, rfl⟩ := List.append_of_mem hz
    have hp' : L'.Perm (K ++ B) := (hp.trans (List.perm_middle)).cons_inv
    rw [List.pairwise_cons] at ho
    rw [List.pairwise_append, List.pairwise_cons] at hs
    obtain ⟨hs1, ⟨hs2, hs3⟩, hs4⟩ := hs
    have hfr : ∀ a, a ∈ K → ind a.o z.o = true ∧ statC a.o.op z.o.op = true := fun a ha => by
      have h1 : z.o.bef.testBit a.i = false := ho.1 a (hp'.symm.subset (List.mem_append_left _ ha))
      rcases hs4 a ha z (by simp) with h2 | h2
      · rw [h1] at h2; cases h2
      · exact h2
    have hf := runA_front pc ic hfr h
    simp only [runA, Option.bind_eq_some_iff] at hf
    obtain ⟨S1, k1, k2⟩ := hf
    simp only [runA, k1, Option.bind_some]
    refine runA_any hp' ho.2 ?_ k2
    rw [List.pairwise_append]
    exact ⟨hs1, hs3, fun a ha b hb => hs4 a ha b (by simp [hb])⟩

/-- The operations of a region with their places. -/
def placed : Nat → List O → List A
  | _, [] => []
  | i, o :: os => ⟨i, o, []⟩ :: placed (i + 1) os
theorem placed_o : ∀ (os : List O) (i : Nat), (placed i os).map A.o = os
  | [], _ => rfl
  | o :: os, i => by simp [placed, placed_o os]
theorem placed_i : ∀ (os : List O) (i : Nat), (placed i os).map A.i = List.range' i os.length
  | [], _ => rfl
  | o :: os, i => by simp [placed, placed_i os, List.range'_succ]
theorem opers_placed : ∀ (os : List O) (i : Nat) (S : St), opers pc ic os S = runA pc ic (placed i os) S
  | [], _, _ => rfl
  | o :: os, i, S => by simp only [opers, placed, runA]; exact congrArg _ (funext fun S => opers_placed os (i + 1) S)
end Go.Vm
