/- slices.Clone, slices.Insert: what the machine's operations for them are worth, where their bodies are walked. -/
import Derived.Test.YtjffpbodflkehaaGreatDoorOVmCall
import Derived.Lib.AppendZerosOnto
import Derived.Lib.Overlaps
set_option linter.unusedVariables false
set_option linter.unusedSimpArgs false
namespace Go.Vm
open Go.RowKit

structure CloneW (P : Program) (f : FuncId) (t e : TypeId) : Prop where
  enter : okFn P f = true
  nil : ∀ n c w, Calls P f #[.slice none n c] w fun e w'' => e = .returned (.slice none 0 0) ∧ w'' = w
  some : ∀ (a : Addr) (n c : Nat) (w w' : World) (v : Value), (Builtin.append_ #[t, t] t #[.slice (some ⟨w.heap.size, 0, none⟩) 0 0, .slice (some a) n c]).run P (w.alloc (.cells #[] e)) = .ok v w' →
    Calls P f #[.slice (some a) n c] w fun e w'' => e = .returned v ∧ w'' = w'

structure InsW (P : Program) (f ov : FuncId) (t e : TypeId) (sz : Nat) : Prop where
  enter : okFn P f = true
  endW : ∀ (base : Option Addr) (n c : Nat) (vA : Option Addr) (vc : Nat) (w w' : World) (v : Value), (Builtin.append_ #[t, t] t #[.slice base n c, .slice vA 1 vc]).run P w = .ok v w' →
    Calls P f #[.slice base n c, .int .i64 n, .slice vA 1 vc] w fun e w'' => e = .returned v ∧ w'' = w'
  ovl : ∀ (w : World) (a b : Addr) (la ca lb cb : Nat), a.block ≠ b.block → ∀ (tA tB : TypeId) (kA kB : Nat), w.shape? a.block = some (tA, kA) → w.shape? b.block = some (tB, kB) → kB ≠ 0 → w.frozen? a = false → w.frozen? { block := a.block, off := kA } = false →
    (callFunc ov #[.slice (some a) la ca, .slice (some b) lb cb]).run P w = .ok (.value (.bool false)) w
  shift : ∀ (g n c i : Nat) (va : Addr) (vc : Nat) (w w1 w2 : World) (k1 k2 : Int), i < n → n + 1 ≤ c → n + 1 ≤ 9223372036854775807 →
    (∀ lb cb, (callFunc ov #[.slice (some va) 1 vc, .slice (some ⟨g, (i + 1) * sz, none⟩) lb cb]).run P w = .ok (.value (.bool false)) w) →
    (Builtin.copy_ #[t, t] 3 #[.slice (some ⟨g, (i + 1) * sz, none⟩) (n + 1 - (i + 1)) (c - (i + 1)), .slice (some ⟨g, i * sz, none⟩) (n + 1 - i) (c - i)]).run P w.drew = .ok (.int .i64 k1) w1 →
    (Builtin.copy_ #[t, t] 3 #[.slice (some ⟨g, i * sz, none⟩) (n + 1 - i) (c - i), .slice (some va) 1 vc]).run P w1 = .ok (.int .i64 k2) w2 →
    Calls P f #[.slice (some ⟨g, 0, none⟩) n c, .int .i64 i, .slice (some va) 1 vc] w fun e w'' => e = .returned (.slice (some ⟨g, 0, none⟩) (n + 1) c) ∧ w'' = w2
  grow : ∀ (g n c i G C : Nat) (va : Addr) (vc : Nat) (w w1 w2 w3 : World) (k1 k2 : Int), i < n → n ≤ c → c < n + 1 → n + 1 ≤ C → n + 1 ≤ 9223372036854775807 →
    (Builtin.append_ #[t, 3] t #[.slice (some ⟨g, 0, none⟩) i c, .int .i64 ((n : Int) + 1 - (i : Int))]).run P w = .ok (.slice (some ⟨G, 0, none⟩) (n + 1) C) w1 →
    (Builtin.copy_ #[t, t] 3 #[.slice (some ⟨G, i * sz, none⟩) (n + 1 - i) (C - i), .slice (some va) 1 vc]).run P w1 = .ok (.int .i64 k1) w2 →
    (Builtin.copy_ #[t, t] 3 #[.slice (some ⟨G, (i + 1) * sz, none⟩) (n + 1 - (i + 1)) (C - (i + 1)), .slice (some ⟨g, i * sz, none⟩) (n - i) (c - i)]).run P w2.drew = .ok (.int .i64 k2) w3 →
    Calls P f #[.slice (some ⟨g, 0, none⟩) n c, .int .i64 i, .slice (some va) 1 vc] w fun e w'' => e = .returned (.slice (some ⟨G, 0, none⟩) (n + 1) C) ∧ w'' = w3

section
variable {P : Program} {o : Oper} {ρ : Operand → Value} {w : World} {G : Gh} {H : List Blk} {pc : Nat → List D → Option D} {base : Nat}

/-- An append's run, out of what the machine's own operation is worth. -/
theorem app_run {t : TypeId} {sz bytes : Nat} (hk : okEl P t sz bytes = true) {q : Nat} {vx vy : V} {x y : Value} (h1 : RV w G H vx x) (h2 : RV w G H vy y) (hs : HS G H w) {r : V} {H' : List Blk} (he : (aAppA q sz bytes vx vy).run H = some (r, H')) :
    ∃ v w', (Builtin.append_ #[t, t] t #[x, y]).run P w = .ok v w' ∧ Post w G H H' r v w' := by
  have hu : okTail P t = true := by
    obtain ⟨e, i, z, hE⟩ := okEl_ok hk
    simp [okTail, hE.under]
  let o : Oper := { dst := none, op := .call { callee := .builtin .append, args := #[.tmp 0, .tmp 1], argTypes := #[t, t] }, type := t, pos := "", after := #[], guard := none }
  let ρ : Operand → Value := fun a => match a with | .tmp 0 => x | _ => y
  have hg := op_appA (P := P) (o := o) (ρ := ρ) (w := w) (G := G) (H := H) (pc := fun _ _ => none) (base := 0) (t := t) (u := t) (b := q) (sz := sz) (bytes := bytes) (x := .tmp 0) (y := .tmp 1) (xs := [vx, vy]) rfl hk hu
    (RVs_cons.2 ⟨_, _, rfl, h1, RVs_cons.2 ⟨_, _, rfl, h2, RVs_nil.2 rfl⟩⟩) hs
  have hd := hg r H' (by simpa [act, a2] using he)
  have hrun : (execOp ρ o).run P w = ((Builtin.append_ #[t, t] t #[x, y]).run P w).andThen fun v w' => .ok (.value v) w' := by
    simp [execOp, o, ρ, resolve, invoke, builtin]
  unfold Does at hd
  rw [hrun] at hd
  revert hd
  generalize (Builtin.append_ #[t, t] t #[x, y]).run P w = R
  intro hd
  cases R with
  | halt z w' => exact hd.elim
  | ok v w' => exact ⟨v, w', rfl, hd⟩

theorem does_call {f : FuncId} {as : List Operand} {ts : Array TypeId} (ho : o.op = .call { callee := .value (.func f), args := as.toArray, argTypes := ts }) (hρ : ∀ f, ρ (.func f) = .func (.func f) #[] #[]) (hf : okFn P f = true) {R : Value → World → Prop}
    (h : Calls P f (as.map ρ).toArray w fun e w' => ∃ v, e = .returned v ∧ R v w') : Does P (execOp ρ o) w R := by
  unfold Does
  rw [run_callF ho (hρ f), callFunc_enter hf]
  exact h

theorem clone_same {q sz bytes : Nat} {y : V} (h : isStrV y = false) : aCloneA q sz bytes y = aAppA q sz bytes .e0 y := by
  unfold aCloneA aAppA
  rw [h]; rfl
theorem cloneV_same {q sz bytes : Nat} {y : V} (h : isStrV y = false) : aCloneV q sz bytes y = aApp q sz bytes .e0 y := by
  unfold aCloneV aApp
  rw [h]; rfl

theorem y_slice {sz : Nat} {y : V} {v : Value} {k : List V → Eff} {r : V} {H' : List Blk} (hy : isStrV y = false) (h : (src sz y k).run H = some (r, H')) (hv : RV w G H y v) (hs : HS G H w) :
    ∃ A n c, v = .slice A n c ∧ (A = none → (k []).run H = some (r, H')) := by
  unfold src at h
  split at h
  · simp only [RV] at hv
    obtain ⟨⟨a, c, rfl, _⟩, _⟩ := hv
    exact ⟨_, _, _, rfl, fun h => by cases h⟩
  · simp [isStrV] at hy
  · split at h
    · rename_i rows hr
      have hd := rowsOf_ok hr hv
      simp only [RD] at hd
      obtain ⟨A, cap, rfl, _, hn⟩ := hd
      refine ⟨_, _, _, rfl, fun hA => ?_⟩
      subst hA
      have : rows = [] := Classical.byContradiction fun h => by
        obtain ⟨_, _, _, hA, _⟩ := hn h
        cases hA
      subst this
      split at h
      · exact h
      · simp only [Eff.run] at h; cases h
    · simp only [Eff.run] at h; cases h

theorem cloneA_ok {f : FuncId} {t e : TypeId} {sz bytes : Nat} (hk : okEl P t sz bytes = true) (hw : CloneW P f t e) {b : Nat} {as : List Operand} {ts : Array TypeId} {xs : List V}
    (ho : o.op = .call { callee := .value (.func f), args := as.toArray, argTypes := ts }) (hρ : ∀ f, ρ (.func f) = .func (.func f) #[] #[]) (hx : RVs w G H xs (as.map ρ)) (hs : HS G H w) : Good P o ρ w G H (act pc base (.cloneA b sz bytes) xs) := by
  match xs, hx with
  | [], _ => exact Good.none
  | _ :: _ :: _, _ => exact Good.none
  | [y], hx =>
    obtain ⟨v, vs, hv, h1, h2⟩ := RVs_cons.1 hx
    rw [RVs_nil] at h2
    subst h2
    simp only [act, a1]
    intro r H' he
    cases hstr : isStrV y with
    | true => unfold aCloneA at he; rw [hstr] at he; simp [Eff.run] at he
    | false =>
      refine does_call ho hρ hw.enter ?_
      rw [hv]
      have he' := he
      unfold aCloneA at he'
      rw [hstr] at he'
      simp only [Bool.false_eq_true, if_false] at he'
      obtain ⟨A, n, c, rfl, hnil⟩ := y_slice hstr he' h1 hs
      cases A with
      | none =>
        have := hnil rfl
        simp [Eff.run] at this
        obtain ⟨rfl, rfl⟩ := this
        refine (hw.nil n c w).mono fun e w' h => ?_
        obtain ⟨rfl, rfl⟩ := h
        exact ⟨_, rfl, Post.ret (by simp only [RV]; exact ⟨none, rfl⟩) hs⟩
      | some a =>
        have hm := HS.mint hs (.cells #[] e) none
        have hT := T.mint hs (.cells #[] e) none
        rw [clone_same hstr] at he
        obtain ⟨v, w', hrun, hp⟩ := app_run (P := P) (t := t) hk (vx := .e0) (x := .slice (some ⟨w.heap.size, 0, none⟩) 0 0) (by simp only [RV]; exact ⟨_, rfl⟩) (RV.ext hT.ext _ _ h1) hm he
        refine (hw.some a n c w w' v hrun).mono fun e w'' h => ?_
        obtain ⟨rfl, rfl⟩ := h
        obtain ⟨G', g1, g2, g3⟩ := hp
        exact ⟨_, rfl, G', g1, g2, hT.trans g3⟩

/-- The same where the slice may grow by a token. -/
theorem appV_run {t : TypeId} {sz bytes : Nat} (hk : okEl P t sz bytes = true) {q : Nat} {vx vy : V} {x y : Value} (h1 : RV w G H vx x) (h2 : RV w G H vy y) (hs : HS G H w) {r : V} {H' : List Blk} (he : (aApp q sz bytes vx vy).run H = some (r, H')) :
    ∃ v w', (Builtin.append_ #[t, t] t #[x, y]).run P w = .ok v w' ∧ Post w G H H' r v w' := by
  have hu : okTail P t = true := by
    obtain ⟨e, i, z, hE⟩ := okEl_ok hk
    simp [okTail, hE.under]
  let o : Oper := { dst := none, op := .call { callee := .builtin .append, args := #[.tmp 0, .tmp 1], argTypes := #[t, t] }, type := t, pos := "", after := #[], guard := none }
  let ρ : Operand → Value := fun a => match a with | .tmp 0 => x | _ => y
  have hg := op_app (P := P) (o := o) (ρ := ρ) (w := w) (G := G) (H := H) (pc := fun _ _ => none) (base := 0) (t := t) (u := t) (b := q) (sz := sz) (bytes := bytes) (x := .tmp 0) (y := .tmp 1) (xs := [vx, vy]) rfl hk hu
    (RVs_cons.2 ⟨_, _, rfl, h1, RVs_cons.2 ⟨_, _, rfl, h2, RVs_nil.2 rfl⟩⟩) hs
  have hd := hg r H' (by simpa [act, a2] using he)
  have hrun : (execOp ρ o).run P w = ((Builtin.append_ #[t, t] t #[x, y]).run P w).andThen fun v w' => .ok (.value v) w' := by
    simp [execOp, o, ρ, resolve, invoke, builtin]
  unfold Does at hd
  rw [hrun] at hd
  revert hd
  generalize (Builtin.append_ #[t, t] t #[x, y]).run P w = R
  intro hd
  cases R with
  | halt z w' => exact hd.elim
  | ok v w' => exact ⟨v, w', rfl, hd⟩
theorem yV_slice {sz : Nat} {y : V} {v : Value} {k : List (List D) → Eff} {r : V} {H' : List Blk} (hy : isStrV y = false) (h : (srcRows sz y k).run H = some (r, H')) (hv : RV w G H y v) (hs : HS G H w) :
    ∃ A n c, v = .slice A n c ∧ (A = none → (k []).run H = some (r, H')) := by
  unfold srcRows at h
  split at h
  · simp only [RV] at hv
    obtain ⟨⟨a, c, rfl, _⟩, _⟩ := hv
    exact ⟨_, _, _, rfl, fun h => by cases h⟩
  · simp [isStrV] at hy
  · split at h
    · rename_i rows hr
      have hd := rowsOf_ok hr hv
      simp only [RD] at hd
      obtain ⟨A, cap, rfl, _, hn⟩ := hd
      refine ⟨_, _, _, rfl, fun hA => ?_⟩
      subst hA
      have : rows = [] := Classical.byContradiction fun h => by
        obtain ⟨_, _, _, hA, _⟩ := hn h
        cases hA
      subst this
      split at h
      · exact h
      · simp only [Eff.run] at h; cases h
    · simp only [Eff.run] at h; cases h
theorem cloneV_ok {f : FuncId} {t e : TypeId} {sz bytes : Nat} (hk : okEl P t sz bytes = true) (hw : CloneW P f t e) {b : Nat} {as : List Operand} {ts : Array TypeId} {xs : List V}
    (ho : o.op = .call { callee := .value (.func f), args := as.toArray, argTypes := ts }) (hρ : ∀ f, ρ (.func f) = .func (.func f) #[] #[]) (hx : RVs w G H xs (as.map ρ)) (hs : HS G H w) : Good P o ρ w G H (act pc base (.cloneV b sz bytes) xs) := by
  match xs, hx with
  | [], _ => exact Good.none
  | _ :: _ :: _, _ => exact Good.none
  | [y], hx =>
    obtain ⟨v, vs, hv, h1, h2⟩ := RVs_cons.1 hx
    rw [RVs_nil] at h2
    subst h2
    simp only [act, a1]
    intro r H' he
    cases hstr : isStrV y with
    | true => unfold aCloneV at he; rw [hstr] at he; simp [Eff.run] at he
    | false =>
      refine does_call ho hρ hw.enter ?_
      rw [hv]
      have he' := he
      unfold aCloneV at he'
      rw [hstr] at he'
      simp only [Bool.false_eq_true, if_false] at he'
      obtain ⟨A, n, c, rfl, hnil⟩ := yV_slice hstr he' h1 hs
      cases A with
      | none =>
        have := hnil rfl
        simp [Eff.run] at this
        obtain ⟨rfl, rfl⟩ := this
        refine (hw.nil n c w).mono fun e w' h => ?_
        obtain ⟨rfl, rfl⟩ := h
        exact ⟨_, rfl, Post.ret (by simp only [RV]; exact ⟨none, rfl⟩) hs⟩
      | some a =>
        have hm := HS.mint hs (.cells #[] e) none
        have hT := T.mint hs (.cells #[] e) none
        rw [cloneV_same hstr] at he
        obtain ⟨v, w', hrun, hp⟩ := appV_run (P := P) (t := t) hk (vx := .e0) (x := .slice (some ⟨w.heap.size, 0, none⟩) 0 0) (by simp only [RV]; exact ⟨_, rfl⟩) (RV.ext hT.ext _ _ h1) hm he
        refine (hw.some a n c w w' v hrun).mono fun e w'' h => ?_
        obtain ⟨rfl, rfl⟩ := h
        obtain ⟨G', g1, g2, g3⟩ := hp
        exact ⟨_, rfl, G', g1, g2, hT.trans g3⟩

theorem Wrote.trans {w w1 w2 : World} {g : Nat} {c1 c2 : Array Value} (h : Wrote w w1 g c1) (k : Wrote w1 w2 g c2) : Wrote w w2 g c2 :=
  ⟨k.os.trans h.os, k.tape.trans h.tape, k.output.trans h.output, k.size.trans h.size, fun q hq => (k.other q hq).trans (h.other q hq), k.here⟩

/-- A copy into a block, known by its source's cells. -/
theorem copy_run {t e : TypeId} {sz : Nat} (hu : P.underlying t = some (.slice e)) (hz : okSize P e sz = true) {w : World} {g off dLen dCap : Nat} {cs : Array Value} (hh : Holds w g cs) {y : Value} {k m : Nat} {news : List Value} {ty : TypeId}
    (hlen : ∀ w, (Builtin.lenOf y).run P w = .ok m w) (hk : Nat.min m dLen = k) (hcells : (Builtin.firstCells sz k y).run P w = .ok news.toArray w) (ho : Ones news) (hfit : off + news.length ≤ cs.size) :
    (Builtin.copy_ #[t, t] ty #[.slice (some ⟨g, off, none⟩) dLen dCap, y]).run P w = .ok (.int .i64 k) (w.setRow g (spliceA cs off news)) := by
  have hst := storeCells_run (P := P) hh hfit ho
  subst hk
  simp [Builtin.copy_, run_underlying hu, hlen, okSize_ok hz, hcells, hst, goInt]
end

section
variable {P : Program} {o : Oper} {ρ : Operand → Value} {w : World} {G : Gh} {H : List Blk} {pc : Nat → List D → Option D} {base : Nat}
theorem Wrote.drew {w w1 : World} {g : Nat} {c : Array Value} (h : Wrote w w1 g c) : Wrote w w1.drew g c := ⟨h.os, h.tape, h.output, h.size, h.other, h.here⟩
theorem Wrote.from {w w1 : World} {g : Nat} {c : Array Value} (h : Wrote w.drew w1 g c) : Wrote w w1 g c := ⟨h.os, h.tape, h.output, h.size, h.other, h.here⟩
theorem natI_ok {x : V} {i : Nat} {v : Value} (h : natI x = some i) (hr : RV w G H x v) : v = .int .i64 i := by
  unfold natI at h
  split at h
  · simp only [Option.ite_none_right_eq_some, Option.some.injEq] at h
    obtain ⟨h0, rfl⟩ := h
    rw [RVint hr]
    congr 1; omega
  · cases h
theorem setB_setB (x y : Blk) : ∀ (l : List Blk) (n : Nat), setB (setB l n x) n y = setB l n y
  | [], 0 => rfl
  | [], n + 1 => by simp only [setB]; rw [setB_setB x y [] n]
  | _ :: _, 0 => rfl
  | _ :: l, n + 1 => by simp only [setB]; rw [setB_setB x y l n]
theorem Holds.shape {g : Nat} {cs : Array Value} (h : Holds w g cs) : ∃ ty, w.shape? g = some (ty, cs.size) := by
  obtain ⟨ty, h⟩ := h
  exact ⟨ty, by simp [World.shape?, h]⟩

/-- The cells of a row with new ones put in between. -/
theorem ins_get {cs : Array Value} {sz i len : Nat} {news : List Value} (hi : i ≤ len) (hn : news.length = sz) (hfit : (len + 1) * sz ≤ cs.size) (cs2 : Array Value)
    (h2 : ∀ j, cs2[j]? = if i * sz ≤ j ∧ j < i * sz + news.length then news[j - i * sz]? else (if (i + 1) * sz ≤ j ∧ j < (i + 1) * sz + ((cs.toList.take (len * sz)).drop (i * sz)).length then ((cs.toList.take (len * sz)).drop (i * sz))[j - (i + 1) * sz]? else cs[j]?))
    (j : Nat) (v : Value) (hj : ((cs.toList.take (len * sz)).take (i * sz) ++ news ++ (cs.toList.take (len * sz)).drop (i * sz))[j]? = some v) : cs2[j]? = some v := by
  have hmul : i * sz ≤ len * sz := Nat.mul_le_mul_right _ hi
  have e1 : (i + 1) * sz = i * sz + sz := by rw [Nat.add_mul, Nat.one_mul]
  have e2 : (len + 1) * sz = len * sz + sz := by rw [Nat.add_mul, Nat.one_mul]
  have hl1 : ((cs.toList.take (len * sz)).take (i * sz)).length = i * sz := by simp; omega
  have hl2 : ((cs.toList.take (len * sz)).drop (i * sz)).length = len * sz - i * sz := by simp; omega
  rw [h2, hl2, hn]
  rw [List.append_assoc, List.getElem?_append, hl1] at hj
  split at hj
  · rename_i h
    rw [if_neg (by omega), if_neg (by omega)]
    rw [List.getElem?_take, if_pos h, List.getElem?_take, if_pos (by omega)] at hj
    simpa using hj
  · rename_i h
    rw [List.getElem?_append, hn] at hj
    split at hj
    · rename_i h'
      rw [if_pos (by omega)]; exact hj
    · rename_i h'
      have hlt := (List.getElem?_eq_some_iff.1 hj).1
      rw [hl2] at hlt
      rw [if_neg (by omega), if_pos (by omega)]
      rw [show j - (i + 1) * sz = j - i * sz - sz by omega]; exact hj

theorem ins_get2 {A news olds : List Value} {p q : Nat} (hA : A.length = p) (hn : p + news.length = q) (f f0 : Nat → Option Value) (h0 : ∀ j v, A[j]? = some v → f0 j = some v)
    (hf : ∀ j, f j = if q ≤ j ∧ j < q + olds.length then olds[j - q]? else (if p ≤ j ∧ j < p + news.length then news[j - p]? else f0 j)) (j : Nat) (v : Value) (hj : (A ++ news ++ olds)[j]? = some v) : f j = some v := by
  rw [hf]
  rw [List.append_assoc, List.getElem?_append, hA] at hj
  split at hj
  · rename_i h
    rw [if_neg (by omega), if_neg (by omega)]
    exact h0 j v hj
  · rename_i h
    rw [List.getElem?_append] at hj
    split at hj
    · rename_i h'
      rw [if_neg (by omega), if_pos (by omega)]; exact hj
    · rename_i h'
      have hlt := (List.getElem?_eq_some_iff.1 hj).1
      rw [if_pos (by omega), show j - q = j - p - news.length by omega]; exact hj

theorem insA_ok {f ov : FuncId} {t e0 : TypeId} {sz bytes : Nat} (hk : okEl P t sz bytes = true) (h3 : P.underlying 3 = some (.int .i64)) (hw : InsW P f ov t e0 sz) {b0 : Nat} {as : List Operand} {ts : Array TypeId} {xs : List V}
    (ho : o.op = .call { callee := .value (.func f), args := as.toArray, argTypes := ts }) (hρ : ∀ f, ρ (.func f) = .func (.func f) #[] #[]) (hx : RVs w G H xs (as.map ρ)) (hs : HS G H w) : Good P o ρ w G H (act pc base (.insA b0 sz bytes) xs) := by
  match xs, hx with
  | [], _ => exact Good.none
  | [_], _ => exact Good.none
  | [_, _], _ => exact Good.none
  | _ :: _ :: _ :: _ :: _, _ => exact Good.none
  | [x, iv, y], hx0 =>
    obtain ⟨vx, vs1, hv, h1, hx1⟩ := RVs_cons.1 hx0
    obtain ⟨vi, vs2, rfl, h2, hx2⟩ := RVs_cons.1 hx1
    obtain ⟨vy, vs3, rfl, hy, hx3⟩ := RVs_cons.1 hx2
    rw [RVs_nil] at hx3
    subst hx3
    clear hx0 hx1 hx2 hx
    simp only [act, a3]
    intro r H' he
    refine does_call ho hρ hw.enter ?_
    rw [hv]
    obtain ⟨e, ti, z, hE⟩ := okEl_ok hk
    have hsz := hE.spos
    have hokz : okSize P e sz = true := by simp [okSize, hE.info, hE.size]
    have he0 := he
    unfold aInsA at he
    cases y
    case arr b' ver0 sz0 off0 len0 =>
      simp only [src, Eff.run] at he
      cases hb0 : getB H b' with
      | dead => rw [hb0] at he; simp [Eff.run] at he
      | gone => rw [hb0] at he; simp [Eff.run] at he
      | tok _ _ => rw [hb0] at he; simp [Eff.run] at he
      | map _ => rw [hb0] at he; simp [Eff.run] at he
      | mem ver0' cells0 =>
        rw [hb0] at he
        simp only at he
        split at he
        · rename_i hc0
          obtain ⟨rfl, rfl, hfit0⟩ := hc0
          split at he
          · rename_i hlen1
            obtain ⟨vs0, hsrc, hr0, hone0⟩ := Src.mem (P := P) hs hb0 hy hfit0
            have hnew : ((cells0.drop off0).take (len0 * sz0)).length = len0 * sz0 := by simp; omega
            have hl0 : len0 = 1 := by
              rw [hnew] at hlen1
              exact Nat.eq_of_mul_eq_mul_right hsz (by omega)
            subst hl0
            have hy' := hy
            simp only [RV] at hy'
            obtain ⟨_, _, hy'⟩ := hy'
            obtain ⟨a0, cap0, cs0, rfl, hlc0, ha0, hab0, hh0, hcap0⟩ := (hy' _ _ hb0).2 rfl
            have ha0' := ha0 (by omega)
            subst ha0'
            -- at the end, and where nothing stands: an append
            have atEnd : ∀ {A : Option Addr} {n c : Nat}, vx = .slice A n c → vi = .int .i64 n → (aAppA (base + b0) sz0 bytes x (.arr b' ver0 sz0 off0 1)).run H = some (r, H') →
                Calls P f #[vx, vi, .slice (some ⟨G.σ b', off0, none⟩) 1 cap0] w fun e w' => ∃ v, e = .returned v ∧ Post w G H H' r v w' := fun {A n c} hvx hvi hap => by
              subst hvx hvi
              obtain ⟨v, w', hrun, hp⟩ := app_run (P := P) (t := t) hk h1 hy hs hap
              refine (hw.endW A n c _ cap0 w w' v hrun).mono fun e w'' h => ?_
              obtain ⟨rfl, rfl⟩ := h
              exact ⟨_, rfl, hp⟩
            have hrun0 : ∀ k : List V → Eff, (src sz0 (.arr b' ver0 sz0 off0 1) k).run H = (k ((cells0.drop off0).take (1 * sz0))).run H := fun k => by
              simp only [src, Eff.run, hb0]
              rw [if_pos ⟨trivial, trivial, hfit0⟩]
            have hm1 : ((cells0.drop off0).take (1 * sz0)).length / sz0 = 1 := by rw [hnew, Nat.one_mul]; exact Nat.div_self hsz
            cases x <;> (try (simp [Eff.run] at he; done))
            case arr b ver sz' off len =>
              cases hiv : natI iv with
              | none => rw [hiv] at he; simp [Eff.run] at he
              | some i =>
                rw [hiv] at he
                simp only at he
                have hvi : vi = .int .i64 i := natI_ok hiv h2
                split at he
                · simp [Eff.run] at he
                · rename_i hbne
                  simp only [Eff.run, Option.map_eq_some_iff] at he
                  obtain ⟨⟨blk, v⟩, he, e1⟩ := he
                  simp only [Prod.mk.injEq] at e1
                  obtain ⟨rfl, rfl⟩ := e1
                  cases hb : getB H b with
                  | dead => rw [hb] at he; simp at he
                  | gone => rw [hb] at he; simp at he
                  | tok _ _ => rw [hb] at he; simp at he
                  | map _ => rw [hb] at he; simp at he
                  | mem ver' cells =>
                    rw [hb] at he
                    simp only [Option.ite_none_right_eq_some, Option.some.injEq, Prod.mk.injEq] at he
                    obtain ⟨⟨hq1, hq2, hq3, hcl, hil, hby⟩, rfl, rfl⟩ := he
                    obtain rfl := hq1
                    obtain rfl := hq2.symm
                    obtain rfl := hq3.symm
                    have hvx := h1
                    simp only [RV] at hvx
                    obtain ⟨_, _, hvx⟩ := hvx
                    obtain ⟨a, cap, cs, rfl, hlc, ha, hab, hh, hcap⟩ := (hvx _ _ hb).2 rfl
                    by_cases hend : i = len
                    · subst hend
                      refine atEnd rfl hvi ?_
                      have h9 : cells.take (i * sz0) ++ (cells0.drop off0).take (1 * sz0) ++ cells.drop (i * sz0) = cells ++ (cells0.drop off0).take (1 * sz0) := by
                        rw [← hcl, List.take_length, List.drop_length, List.append_nil]
                      rw [h9]
                      unfold aAppA
                      rw [hrun0]
                      simp only [hm1, Eff.run, hb]
                      rw [if_neg (by omega), if_neg (by rw [hnew]; omega), if_pos ⟨trivial, hcl⟩]
                      rfl
                    · have hlt : i < len := by omega
                      have hcp : 0 < cap := by omega
                      have ha' := ha hcp
                      subst ha'
                      obtain ⟨cs', hh', hcl', hW, hrc, hone⟩ := BR.read hs hb
                      obtain rfl := hh.uniq hh'
                      have hact : (getB H b).act := by rw [hb]; trivial
                      have hact0 : (getB H b').act := by rw [hb0]; trivial
                      have hg : G.σ b' ≠ G.σ b := fun h => hbne (hs.inj b' b hact0 hact h)
                      rw [hcl] at hrc hone
                      have hmul : i * sz0 ≤ len * sz0 := Nat.mul_le_mul_right _ (by omega)
                      have e1 : (i + 1) * sz0 = i * sz0 + sz0 := by rw [Nat.add_mul, Nat.one_mul]
                      have e2 : (len + 1) * sz0 = len * sz0 + sz0 := by rw [Nat.add_mul, Nat.one_mul]
                      have e3 : (len - i) * sz0 = len * sz0 - i * sz0 := Nat.sub_mul _ _ _
                      have hlen63 : len + 1 ≤ 140737488355328 := mk_len hE.pos hby
                      -- the new cells, the old ones behind the place
                      have hnl : (vs0.take (1 * sz0)).length = sz0 := by rw [hsrc.size, Nat.one_mul]
                      have hol : ((cs.toList.take (len * sz0)).drop (i * sz0)).length = (len - i) * sz0 := by simp; omega
                      have hoo : Ones ((cs.toList.take (len * sz0)).drop (i * sz0)) := hone.drop _
                      have hno : Ones (vs0.take (1 * sz0)) := hone0.take _
                      have hocell : ∀ (j : Nat) (v : Value), ((cs.toList.take (len * sz0)).drop (i * sz0))[j]? = some v → cs[i * sz0 + j]? = some v := fun j v hj => by
                        rw [List.getElem?_drop, List.getElem?_take] at hj
                        split at hj
                        · simpa using hj
                        · cases hj
                      have hncell : ∀ (j : Nat) (v : Value), (vs0.take (1 * sz0))[j]? = some v → w.cell? ⟨G.σ b', off0 + j, none⟩ = some v := fun j v hj => by
                        have h8 := hsrc.cells w rfl 1 (Nat.le_refl _)
                        obtain ⟨cs0', hh0', hcl0, _, hr0', hone0'⟩ := BR.read hs hb0
                        obtain rfl := hh0.uniq hh0'
                        have h7 := run_firstCells_some w sz0 1 ⟨G.σ b', off0, none⟩ 1 cap0 (((cs0.toList.take cells0.length).drop off0).take (1 * sz0)) (by simp; omega) (fun j v hj => by
                          rw [add_lit', hh0.cell]
                          rw [List.getElem?_take] at hj
                          split at hj
                          · rw [List.getElem?_drop, List.getElem?_take] at hj
                            split at hj
                            · simpa using hj
                            · cases hj
                          · cases hj) (P := P)
                        rw [h7] at h8
                        have h6 : ((cs0.toList.take cells0.length).drop off0).take (1 * sz0) = vs0.take (1 * sz0) := by
                          have := congrArg (fun r => match r with | Result.ok a _ => a.toList | _ => []) h8
                          simpa [List.take_take] using this
                        rw [← h6, List.getElem?_take] at hj
                        rw [hh0.cell]
                        split at hj
                        · rw [List.getElem?_drop, List.getElem?_take] at hj
                          split at hj
                          · simpa using hj
                          · cases hj
                        · cases hj
                      have hrall : ∀ {w' : World} {G' : Gh} {H'' : List Blk}, Ext w G H w' G' H'' → RVs w' G' H'' (cells.take (i * sz0) ++ (cells0.drop off0).take (1 * sz0) ++ cells.drop (i * sz0))
                          ((cs.toList.take (len * sz0)).take (i * sz0) ++ vs0.take (1 * sz0) ++ (cs.toList.take (len * sz0)).drop (i * sz0)) := fun hx =>
                        RVs.ext hx _ _ (RVs.append (RVs.append (hrc.take _) (hr0.take _)) (hrc.drop _))
                      have honeall : Ones ((cs.toList.take (len * sz0)).take (i * sz0) ++ vs0.take (1 * sz0) ++ (cs.toList.take (len * sz0)).drop (i * sz0)) := Ones.append (Ones.append (hone.take _) hno) hoo
                      subst hvi
                      by_cases hroom : len + 1 ≤ cap
                      · -- there is room
                        have hmulc : (len + 1) * sz0 ≤ cap * sz0 := Nat.mul_le_mul_right _ hroom
                        have hfit1 : (i + 1) * sz0 + ((cs.toList.take (len * sz0)).drop (i * sz0)).length ≤ cs.size := by rw [hol]; omega
                        have hhd : Holds w.drew (G.σ b) cs := hh
                        have hcp1 := copy_run (P := P) (t := t) (ty := 3) hE.under hokz (w := w.drew) (off := (i + 1) * sz0) (dLen := len + 1 - (i + 1)) (dCap := cap - (i + 1)) hhd (y := .slice (some ⟨G.σ b, i * sz0, none⟩) (len + 1 - i) (cap - i)) (k := len - i) (m := len + 1 - i)
                          (fun _ => rfl) (by show min (len + 1 - i) (len + 1 - (i + 1)) = len - i; omega) (run_firstCells_some w.drew sz0 (len - i) _ _ _ _ hol (fun j v hj => by rw [add_lit', hhd.cell]; exact hocell j v hj)) hoo hfit1
                        have hw1 := Wrote.setRow hhd (spliceA cs ((i + 1) * sz0) ((cs.toList.take (len * sz0)).drop (i * sz0)))
                        have hs1 := spliceA_size hfit1
                        have hfit2 : i * sz0 + (vs0.take (1 * sz0)).length ≤ (spliceA cs ((i + 1) * sz0) ((cs.toList.take (len * sz0)).drop (i * sz0))).size := by rw [hs1, hnl]; omega
                        have hcp2 := copy_run (P := P) (t := t) (ty := 3) hE.under hokz (off := i * sz0) (dLen := len + 1 - i) (dCap := cap - i) hw1.here (y := .slice (some ⟨G.σ b', off0, none⟩) 1 cap0) (k := 1) (m := 1)
                          (fun _ => rfl) (by show min 1 (len + 1 - i) = 1; omega) (run_firstCells_some _ sz0 1 _ _ _ _ (by rw [hnl, Nat.one_mul]) (fun j v hj => by
                            rw [add_lit', World.cell?_of_block (w := w.drew) (hw1.other _ hg)]; exact hncell j v hj)) hno hfit2
                        have hw2 := Wrote.setRow hw1.here (spliceA (spliceA cs ((i + 1) * sz0) ((cs.toList.take (len * sz0)).drop (i * sz0))) (i * sz0) (vs0.take (1 * sz0)))
                        have hwr := Wrote.trans hw1 hw2
                        have hs2 := spliceA_size hfit2
                        have hov : ∀ lb cb, (callFunc ov #[.slice (some ⟨G.σ b', off0, none⟩) 1 cap0, .slice (some ⟨G.σ b, (i + 1) * sz0, none⟩) lb cb]).run P w = .ok (.value (.bool false)) w := fun lb cb => by
                          obtain ⟨tA, hA⟩ := hh0.shape
                          obtain ⟨tB, hB⟩ := hh.shape
                          exact hw.ovl w _ _ _ _ _ _ hg tA tB _ _ hA hB (by rw [← hcap, Nat.zero_add]; exact Nat.mul_ne_zero (by omega) (by omega)) (hh0.frozen _) (hh0.frozen _)
                        refine (hw.shift (G.σ b) len cap i _ cap0 w _ _ _ _ hlt hroom (by omega) hov hcp1 hcp2).mono fun e w' h => ?_
                        obtain ⟨rfl, rfl⟩ := h
                        have hxx : Ext w.drew G H _ ⟨G.σ, upd G.W (G.σ b) (some 0)⟩ (setB H b (.mem (ver + 1) (cells.take (i * sz0) ++ (cells0.drop off0).take (1 * sz0) ++ cells.drop (i * sz0)))) :=
                          Ext.wrote hwr hhd (by rw [hs2, hs1]) hW (Nat.le_refl _) (fun j hj => absurd hj (Nat.not_lt_zero _)) (by simp) (fun _ _ e => by cases e; exact ⟨_, _, hb, by omega⟩) (fun _ _ e => by cases e) (fun _ e => by cases e)
                        have hbr : BR _ ⟨G.σ, upd G.W (G.σ b) (some 0)⟩ (setB H b (.mem (ver + 1) (cells.take (i * sz0) ++ (cells0.drop off0).take (1 * sz0) ++ cells.drop (i * sz0)))) b (.mem (ver + 1) (cells.take (i * sz0) ++ (cells0.drop off0).take (1 * sz0) ++ cells.drop (i * sz0))) :=
                          BR.mem hwr.here (upd_same _ _ _) (hrall ((Ext.drew w G H).trans hxx)) honeall (ins_get (by omega) hnl (by omega) _ (fun j => by rw [spliceA_get hfit2, spliceA_get hfit1]))
                        refine ⟨_, rfl, _, ?_, hs.drew.wrote hwr hact hxx hbr, (T.drew w G H).trans (T.wrote hwr hact hxx)⟩
                        simp only [RV]
                        refine ⟨⟨_, _, rfl, hroom⟩, by rw [getB_setB, if_pos rfl]; simp, fun ver' cells' he => ?_⟩
                        rw [getB_setB, if_pos rfl] at he
                        cases he
                        exact ⟨Nat.le_refl _, fun _ => ⟨_, _, _, rfl, hroom, fun _ => rfl, rfl, hwr.here, by rw [hs2, hs1]; exact hcap⟩⟩
                      · -- a new row
                        have hcl2 : cap < len + 1 := by omega
                        have hhd : Holds w.drew (G.σ b) cs := hh
                        have hik : i + (len + 1 - i) = len + 1 := by omega
                        have hkk : ((len + 1 - i : Nat) : Int) = (len : Int) + 1 - (i : Int) := by omega
                        have hold : (Builtin.firstCells ti.size i (.slice (some ⟨G.σ b, 0, none⟩) i cap)).run P w.drew = .ok ((cs.toList.take (len * sz0)).take (i * sz0)).toArray w.drew := by
                          rw [hE.size]
                          exact run_firstCells_some w.drew sz0 i _ _ _ _ (by simp; omega) (fun j v hj => by
                            rw [add_lit', hhd.cell]
                            rw [List.getElem?_take] at hj
                            split at hj
                            · rw [List.getElem?_take] at hj
                              split at hj
                              · simpa using hj
                              · cases hj
                            · cases hj)
                        have hby2 : (len + 1 - i) * bytes ≤ (len + 1) * bytes := Nat.mul_le_mul_right _ (by omega)
                        have hap := Go.Lib.run_append_grow_zeros (P := P) w t 3 t e ti z .i64 .i64 hE.under h3 hE.info hE.zero (some ⟨G.σ b, 0, none⟩) i cap _ hold (len + 1 - i) (by omega) (by rw [hE.size]; exact hsz) (by omega) (by omega)
                          (by rw [hE.bytesz]; unfold maxBytes at hby; omega) (by rw [hE.bytesz, hik]; exact growslice_fits hcl2 hby)
                        rw [hik, hkk] at hap
                        have hC := grownCap_ge w (len + 1) cap e
                        have hRs : (((cs.toList.take (len * sz0)).take (i * sz0)).toArray ++ Builtin.zeroCells z.cells (len + 1 - i) ++ Builtin.zeroCells z.cells (grownCap w (len + 1) cap e - (len + 1))).size = grownCap w (len + 1) cap e * sz0 := by
                          have q1 : grownCap w (len + 1) cap e * sz0 = (len + 1) * sz0 + (grownCap w (len + 1) cap e - (len + 1)) * sz0 := by
                            rw [← Nat.add_mul]; congr 1; omega
                          have q2 : (len + 1) * sz0 = i * sz0 + (len + 1 - i) * sz0 := by
                            rw [← Nat.add_mul]; congr 1; omega
                          simp [Builtin.zeroCells, hE.cells]
                          omega
                        have hRp : ∀ (j : Nat) (v : Value), ((cs.toList.take (len * sz0)).take (i * sz0))[j]? = some v → (((cs.toList.take (len * sz0)).take (i * sz0)).toArray ++ Builtin.zeroCells z.cells (len + 1 - i) ++ Builtin.zeroCells z.cells (grownCap w (len + 1) cap e - (len + 1)))[j]? = some v := fun j v hj => by
                          have hlt9 := (List.getElem?_eq_some_iff.1 hj).1
                          rw [Array.append_assoc, Array.getElem?_append_left (by simpa using hlt9)]
                          simpa using hj
                        revert hap hRs hC hRp
                        generalize grownCap w (len + 1) cap e = C
                        generalize ((cs.toList.take (len * sz0)).take (i * sz0)).toArray ++ Builtin.zeroCells z.cells (len + 1 - i) ++ Builtin.zeroCells z.cells (C - (len + 1)) = ROW
                        intro hap hC hRs hRp
                        have hR : Holds (w.drew.alloc (.cells ROW e)) w.heap.size ROW := ⟨e, heap_alloc_new w.drew _⟩
                        have hmulC : (len + 1) * sz0 ≤ C * sz0 := Nat.mul_le_mul_right _ hC
                        have hlt' : G.σ b' < w.heap.size := hs.lt b' hact0
                        have hltb : G.σ b < w.heap.size := hs.lt b hact
                        have hfitA : i * sz0 + (vs0.take (1 * sz0)).length ≤ ROW.size := by rw [hnl, hRs]; omega
                        have hcp1 := copy_run (P := P) (t := t) (ty := 3) hE.under hokz (off := i * sz0) (dLen := len + 1 - i) (dCap := C - i) hR (y := .slice (some ⟨G.σ b', off0, none⟩) 1 cap0) (k := 1) (m := 1)
                          (fun _ => rfl) (by show min 1 (len + 1 - i) = 1; omega) (run_firstCells_some _ sz0 1 _ _ _ _ (by rw [hnl, Nat.one_mul]) (fun j v hj => by
                            rw [add_lit', World.cell?_of_block (w := w) (heap_lt_old (w := w.drew) (o := .cells ROW e) hlt')]; exact hncell j v hj)) hno hfitA
                        have hwA := Wrote.setRow hR (spliceA ROW (i * sz0) (vs0.take (1 * sz0)))
                        have hsA := spliceA_size hfitA
                        have hfitB : (i + 1) * sz0 + ((cs.toList.take (len * sz0)).drop (i * sz0)).length ≤ (spliceA ROW (i * sz0) (vs0.take (1 * sz0))).size := by rw [hsA, hol, hRs]; omega
                        have hwA' := hwA.drew
                        have hcp2 := copy_run (P := P) (t := t) (ty := 3) hE.under hokz (off := (i + 1) * sz0) (dLen := len + 1 - (i + 1)) (dCap := C - (i + 1)) hwA'.here (y := .slice (some ⟨G.σ b, i * sz0, none⟩) (len - i) (cap - i)) (k := len - i) (m := len - i)
                          (fun _ => rfl) (by show min (len - i) (len + 1 - (i + 1)) = len - i; omega) (run_firstCells_some _ sz0 (len - i) _ _ _ _ hol (fun j v hj => by
                            rw [add_lit', World.cell?_of_block (w := w) ((hwA'.other _ (by show G.σ b ≠ w.heap.size; omega)).trans (heap_lt_old (w := w.drew) (o := .cells ROW e) hltb)), hh.cell]; exact hocell j v hj)) hoo hfitB
                        have hwB := Wrote.setRow hwA'.here (spliceA (spliceA ROW (i * sz0) (vs0.take (1 * sz0))) ((i + 1) * sz0) ((cs.toList.take (len * sz0)).drop (i * sz0)))
                        have hwr := Wrote.trans hwA' hwB
                        have hsB := spliceA_size hfitB
                        refine (hw.grow (G.σ b) len cap i w.heap.size C _ cap0 w _ _ _ _ _ hlt hlc hcl2 hC (by omega) hap hcp1 hcp2).mono fun en w' h => ?_
                        obtain ⟨rfl, rfl⟩ := h
                        have hx0 : Ext w.drew G H (w.drew.alloc (.cells ROW e)) ⟨upd G.σ b w.drew.heap.size, upd G.W w.drew.heap.size (some 0)⟩ (setB H b (.mem (ver + 1) [])) :=
                          Ext.realloc hs.drew _ _ _ (by simp) (fun _ _ e => by cases e; exact ⟨_, _, hb, by omega⟩) (fun _ _ e => by cases e) (fun _ e => by cases e)
                        have hb0' : BR (w.drew.alloc (.cells ROW e)) ⟨upd G.σ b w.drew.heap.size, upd G.W w.drew.heap.size (some 0)⟩ (setB H b (.mem (ver + 1) [])) b (.mem (ver + 1) []) :=
                          BR.mem (cs := ROW) (by show Holds _ (upd G.σ b w.drew.heap.size b) ROW; rw [upd_same]; exact hR) (by show upd G.W _ _ (upd G.σ b w.drew.heap.size b) = _; rw [upd_same, upd_same]) (vs := []) (by simp [RVs_nil]) (fun u hu => by cases hu) (fun j v hj => by simp at hj)
                        have hst := realloc hs.drew hx0 hb0'
                        have hσ : (upd G.σ b w.drew.heap.size) b = w.heap.size := upd_same _ _ _
                        have hb1 : getB (setB H b (.mem (ver + 1) [])) b = .mem (ver + 1) [] := by rw [getB_setB, if_pos rfl]
                        have hwr1 : ∀ g, g = w.heap.size → Wrote _ _ g _ := fun g hg => by subst hg; exact hwr
                        have hR1 : ∀ g, g = w.heap.size → Holds _ g _ := fun g hg => by subst hg; exact hR
                        have hxx := Ext.wrote (G := ⟨upd G.σ b w.drew.heap.size, upd G.W w.drew.heap.size (some 0)⟩) (H := setB H b (.mem (ver + 1) [])) (b := b) (blk := .mem (ver + 1) (cells.take (i * sz0) ++ (cells0.drop off0).take (1 * sz0) ++ cells.drop (i * sz0))) (m := 0) (m' := 0)
                          (hwr1 _ hσ) (hR1 _ hσ) (by rw [hsB, hsA]) (by show upd G.W _ _ (upd G.σ b w.drew.heap.size b) = _; rw [upd_same, upd_same]) (Nat.le_refl _) (fun j hj => absurd hj (Nat.not_lt_zero _)) (by simp) (fun _ _ e => by cases e; exact ⟨_, _, hb1, Nat.le_refl _⟩) (fun _ _ e => by cases e) (fun _ e => by cases e)
                        have hact1 : (getB (setB H b (.mem (ver + 1) [])) b).act := by rw [hb1]; trivial
                        have hbr : BR _ _ (setB (setB H b (.mem (ver + 1) [])) b (.mem (ver + 1) (cells.take (i * sz0) ++ (cells0.drop off0).take (1 * sz0) ++ cells.drop (i * sz0)))) b (.mem (ver + 1) (cells.take (i * sz0) ++ (cells0.drop off0).take (1 * sz0) ++ cells.drop (i * sz0))) :=
                          BR.mem (G := ⟨upd G.σ b w.drew.heap.size, upd (upd G.W w.drew.heap.size (some 0)) ((upd G.σ b w.drew.heap.size) b) (some 0)⟩) ((hwr1 _ hσ).here) (upd_same _ _ _) (hrall (((Ext.drew w G H).trans hx0).trans hxx)) honeall (fun j v hj => by
                            exact ins_get2 (p := i * sz0) (q := (i + 1) * sz0) (by simp; omega) (by rw [hnl]; omega) _ _ hRp (fun j => by rw [spliceA_get hfitB, spliceA_get hfitA]) j v hj)
                        have hfin1 := hst.1.wrote (hwr1 _ hσ) hact1 hxx hbr
                        have hfin2 := T.wrote (hwr1 _ hσ) hact1 hxx
                        rw [setB_setB] at hfin1 hfin2
                        refine ⟨_, rfl, _, ?_, hfin1, (T.drew w G H).trans (hst.2.trans hfin2)⟩
                        simp only [RV]
                        refine ⟨⟨_, _, rfl, hC⟩, by rw [getB_setB, if_pos rfl]; simp, fun ver' cells' he => ?_⟩
                        rw [getB_setB, if_pos rfl] at he
                        cases he
                        exact ⟨Nat.le_refl _, fun _ => ⟨_, _, _, rfl, hC, fun _ => by rw [hσ], by rw [hσ], (hwr1 _ hσ).here, by rw [hsB, hsA, hRs, Nat.zero_add]⟩⟩
            case nilS =>
              have hvx : vx = .slice none 0 0 := by simpa only [RV] using h1
              cases hiv : natI iv with
              | none => rw [hiv] at he; simp [Eff.run] at he
              | some k =>
                rw [hiv] at he
                cases k with
                | succ k => simp [Eff.run] at he
                | zero =>
                  refine atEnd hvx (natI_ok hiv h2) ?_
                  unfold aAppA
                  rw [hrun0]
                  simp only [hm1]
                  rw [if_neg (by decide), show 1 * bytes = bytes from Nat.one_mul _]
                  exact he
            case e0 =>
              obtain ⟨A, hvx⟩ : ∃ A, vx = .slice A 0 0 := by simpa only [RV] using h1
              cases hiv : natI iv with
              | none => rw [hiv] at he; simp [Eff.run] at he
              | some k =>
                rw [hiv] at he
                cases k with
                | succ k => simp [Eff.run] at he
                | zero =>
                  refine atEnd hvx (natI_ok hiv h2) ?_
                  unfold aAppA
                  rw [hrun0]
                  simp only [hm1]
                  rw [if_neg (by decide), show 1 * bytes = bytes from Nat.one_mul _]
                  exact he
          · simp [Eff.run] at he
        · simp [Eff.run] at he
    all_goals (simp [Eff.run] at he; done)
end
end Go.Vm
