/- How one operation of the model runs; how the machine's operands and constants are checked against the model's. -/
import Derived.Test.YtjffpbodflkehaaGreatDoorOVmHeap
import Derived.Calls
set_option linter.unusedVariables false
set_option linter.unusedSimpArgs false
namespace Go.Vm
open Go.RowKit

/-- What an operation of the model comes to. -/
def Does (P : Program) (s : Sem Next) (w : World) (R : Value → World → Prop) : Prop :=
  match s.run P w with
  | .ok (.value v) w' => R v w'
  | .ok .skip w' => R undef w'
  | .ok (.enter f args) w' => Calls P f args w' fun e w'' => ∃ v, e = .returned v ∧ R v w''
  | .ok (.row row args) w' => Rows P row args w' R
  | _ => False

theorem Does.wp {P : Program} {o : Oper} {a : Act} {w : World} {R : Value → World → Prop} {next : Act → World → Prop} {Q : Exit → Act → World → Prop}
    (h : Does P (execOp a.eval o) w R) (hn : ∀ v w', R v w' → next (a.put o.dst v) w') : o.wp P a w next Q := by
  unfold Oper.wp Oper.upon
  unfold Does at h
  revert h
  generalize (execOp a.eval o).run P w = r
  intro h
  cases r with
  | halt x w' => exact h.elim
  | ok n w' =>
    cases n <;> first
      | exact h.elim
      | exact hn _ _ h
      | skip
    case enter f args =>
      refine Calls.mono h fun e w'' hr => ?_
      obtain ⟨v, rfl, hv⟩ := hr
      exact hn _ _ hv
    case row row args => exact Rows.mono h fun v w'' hr => hn _ _ hr

theorem Does.mono {P : Program} {s : Sem Next} {w : World} {R R' : Value → World → Prop} (h : Does P s w R) (hr : ∀ v w', R v w' → R' v w') : Does P s w R' := by
  unfold Does at h ⊢
  revert h
  generalize s.run P w = r
  intro h
  cases r with
  | halt x w' => exact h.elim
  | ok n w' =>
    cases n <;> first
      | exact h.elim
      | exact hr _ _ h
      | skip
    case enter f args =>
      refine Calls.mono h fun e w'' hx => ?_
      obtain ⟨v, rfl, hv⟩ := hx
      exact ⟨v, rfl, hr _ _ hv⟩
    case row row args => exact Rows.mono h fun v w'' hx => hr _ _ hx

theorem Does.value {P : Program} {s : Sem Next} {w w' : World} {v : Value} {R : Value → World → Prop} (hs : s.run P w = .ok (.value v) w') (h : R v w') : Does P s w R := by
  unfold Does; rw [hs]; exact h
theorem Does.skip {P : Program} {s : Sem Next} {w w' : World} {R : Value → World → Prop} (hs : s.run P w = .ok .skip w') (h : R undef w') : Does P s w R := by
  unfold Does; rw [hs]; exact h

/-- Behind an operation: a value, a heap. -/
def Post (w : World) (G : Gh) (H H' : List Blk) (r : V) (v : Value) (w' : World) : Prop :=
  ∃ G', RV w' G' H' r v ∧ HS G' H' w' ∧ T w G H w' G' H'

theorem Post.ret {w G H r v} (hr : RV w G H r v) (hs : HS G H w) : Post w G H H r v w := ⟨G, hr, hs, T.refl _ _ _⟩

/-! ### Constants -/
def chkD0 : D → Value → Bool
  | .int k n, .int k' n' => decide (k = k') && decide (n = n')
  | .bool b, .bool c => b == c
  | .str s, .string b => b.data.toList == s
  | .nilI, .nilIface => true
  | .nilp, .pointer none => true
  | .list [], .slice _ 0 _ => true
  | _, _ => false
def chkV : V → Value → Bool
  | .d x, v => chkD0 x v
  | .nilS, .slice none 0 0 => true
  | .nilF, .nilFunc => true
  | .junk, _ => true
  | _, _ => false
def chkVs : List V → List Value → Bool
  | [], [] => true
  | x :: l, y :: r => chkV x y && chkVs l r
  | _, _ => false

theorem chkD0_ok {w : World} {W} {x : D} {v : Value} (h : chkD0 x v = true) : RD w W x v := by
  unfold chkD0 at h
  split at h
  · simp only [RD]; simp at h; rw [h.1, h.2]
  · simp only [RD]; simp at h; rw [h]
  · simp only [RD]; simp at h; rw [← h]
  · simp only [RD]
  · simp only [RD]
  · simp only [RD]; exact ⟨_, _, rfl, Nat.zero_le _, fun hn => absurd rfl hn⟩
  · cases h
theorem chkV_ok {w : World} {G : Gh} {H : List Blk} {x : V} {v : Value} (h : chkV x v = true) : RV w G H x v := by
  unfold chkV at h
  split at h
  · simp only [RV]; exact chkD0_ok h
  · simp only [RV]
  · simp only [RV]
  · simp only [RV]
  · cases h
theorem chkVs_ok {w : World} {G : Gh} {H : List Blk} : ∀ {xs : List V} {vs : List Value}, chkVs xs vs = true → RVs w G H xs vs
  | [], [], _ => by simp only [RVs]
  | x :: l, y :: r, h => by
    simp only [chkVs, Bool.and_eq_true] at h
    simp only [RVs]
    exact ⟨y, r, rfl, chkV_ok h.1, chkVs_ok h.2⟩
  | [], _ :: _, h => by simp [chkVs] at h
  | _ :: _, [], h => by simp [chkVs] at h

theorem chkVs_len : ∀ {xs : List V} {vs : List Value}, chkVs xs vs = true → xs.length = vs.length
  | [], [], _ => rfl
  | x :: l, y :: r, h => by
    simp only [chkVs, Bool.and_eq_true] at h
    simp [chkVs_len h.2]
  | [], _ :: _, h => by simp [chkVs] at h
  | _ :: _, [], h => by simp [chkVs] at h

/-! ### Operands -/
def chkOpd : Opd → Operand → Bool
  | .t n, .tmp m => n == m
  | .c v, .const u => chkV v u
  | .c (.fn f []), .func g => f == g
  | .c .junk, .global _ => true
  | _, _ => false
def chkOpds : List Opd → List Operand → Bool
  | [], [] => true
  | x :: l, y :: r => chkOpd x y && chkOpds l r
  | _, _ => false

/-- The temporaries of a frame. -/
structure TR (w : World) (G : Gh) (H : List Blk) (N : Nat) (ts : List V) (a : Act) : Prop where
  size : a.tmps.size = N
  defers : a.defers = []
  tmp : ∀ t, RV w G H (getT ts t) (a.tmps.getD t undef)

theorem chkOpd_ok {w G H N ts a} (h : TR w G H N ts a) {x : Opd} {y : Operand} (hc : chkOpd x y = true) : RV w G H (x.ev ts) (a.eval y) := by
  unfold chkOpd at hc
  split at hc
  · simp only [beq_iff_eq] at hc
    subst hc; exact h.tmp _
  · exact chkV_ok hc
  · simp only [beq_iff_eq] at hc
    subst hc; simp only [Opd.ev, Act.eval, RV, RVs]; exact ⟨[], rfl, rfl⟩
  · simp only [Opd.ev, RV]
  · cases hc
theorem chkOpds_ok {w G H N ts a} (h : TR w G H N ts a) : ∀ {xs : List Opd} {ys : List Operand}, chkOpds xs ys = true → RVs w G H (evs ts xs) (ys.map a.eval)
  | [], [], _ => by simp only [evs, List.map_nil, RVs]
  | x :: l, y :: r, hc => by
    simp only [chkOpds, Bool.and_eq_true] at hc
    simp only [evs, List.map_cons, RVs]
    exact ⟨_, _, rfl, chkOpd_ok h hc.1, chkOpds_ok h hc.2⟩
  | [], _ :: _, hc => by simp [chkOpds] at hc
  | _ :: _, [], hc => by simp [chkOpds] at hc

theorem TR.ext {w G H N ts a w' G' H'} (h : TR w G H N ts a) (hx : Ext w G H w' G' H') : TR w' G' H' N ts a :=
  ⟨h.size, h.defers, fun t => RV.ext hx _ _ (h.tmp t)⟩

def okDst (N : Nat) : Option Nat → Bool
  | some d => decide (d < N)
  | none => true
theorem TR.put {w G H N ts a} (h : TR w G H N ts a) {dst : Option Nat} (hd : okDst N dst = true) {r : V} {v : Value} (hr : RV w G H r v) : TR w G H N (put ts dst r) (a.put dst v) := by
  cases dst with
  | none => exact h
  | some d =>
    have hd' : d < N := by simpa [okDst] using hd
    refine ⟨by simp [Act.put, h.size], h.defers, fun t => ?_⟩
    show RV w G H (getT (setT ts d r) t) ((a.tmps.setIfInBounds d v).getD t undef)
    rw [getT_setT]
    by_cases e : t = d
    · subst e
      have : t < a.tmps.size := by rw [h.size]; exact hd'
      simp [Array.getD, this, hr]
    · rw [if_neg e]
      have := h.tmp t
      by_cases ht : t < a.tmps.size
      · simpa [Array.getD, ht, Ne.symm e] using this
      · simpa [Array.getD, ht] using this

/-! ### Lists of values -/
theorem RVs_nil {w G H vs} : RVs w G H [] vs ↔ vs = [] := by simp only [RVs]
theorem RVs_cons {w G H x xs vs} : RVs w G H (x :: xs) vs ↔ ∃ v vs', vs = v :: vs' ∧ RV w G H x v ∧ RVs w G H xs vs' := by simp only [RVs]
theorem RVs.length {w G H} : ∀ {xs : List V} {vs : List Value}, RVs w G H xs vs → vs.length = xs.length
  | [], _, h => by rw [RVs_nil] at h; subst h; rfl
  | x :: xs, _, h => by
    obtain ⟨v, vs', rfl, _, h⟩ := RVs_cons.1 h
    simp [RVs.length h]
theorem RVs.get {w G H} : ∀ {xs : List V} {vs : List Value}, RVs w G H xs vs → ∀ {i : Nat} {x : V}, xs[i]? = some x → ∃ v, vs[i]? = some v ∧ RV w G H x v
  | [], _, h, i, x, hi => by simp at hi
  | y :: xs, _, h, i, x, hi => by
    obtain ⟨v, vs', rfl, hv, h⟩ := RVs_cons.1 h
    cases i with
    | zero => simp at hi; subst hi; exact ⟨v, rfl, hv⟩
    | succ i => simpa using RVs.get h (by simpa using hi)
theorem RVs.of_get {w G H} : ∀ {xs : List V} {vs : List Value}, vs.length = xs.length → (∀ (i : Nat) (x : V), xs[i]? = some x → ∃ v, vs[i]? = some v ∧ RV w G H x v) → RVs w G H xs vs
  | [], vs, hl, _ => by rw [RVs_nil]; exact List.eq_nil_of_length_eq_zero hl
  | x :: xs, [], hl, _ => by simp at hl
  | x :: xs, v :: vs, hl, h => by
    rw [RVs_cons]
    obtain ⟨v', hv, hr⟩ := h 0 x rfl
    simp at hv; subst hv
    exact ⟨v, vs, rfl, hr, RVs.of_get (by simpa using hl) (fun i y hi => by simpa using h (i + 1) y (by simpa using hi))⟩
theorem RVs.append {w G H} : ∀ {xs ys : List V} {vs us : List Value}, RVs w G H xs vs → RVs w G H ys us → RVs w G H (xs ++ ys) (vs ++ us)
  | [], ys, _, us, h, k => by rw [RVs_nil] at h; subst h; exact k
  | x :: xs, ys, _, us, h, k => by
    obtain ⟨v, vs', rfl, hv, h⟩ := RVs_cons.1 h
    simp only [List.cons_append]
    rw [RVs_cons]
    exact ⟨v, vs' ++ us, rfl, hv, RVs.append h k⟩
theorem RVs.take {w G H} : ∀ {xs : List V} {vs : List Value} (n : Nat), RVs w G H xs vs → RVs w G H (xs.take n) (vs.take n)
  | [], _, n, h => by rw [RVs_nil] at h; subst h; simp [RVs_nil]
  | x :: xs, _, 0, h => by simp [RVs_nil]
  | x :: xs, _, n + 1, h => by
    obtain ⟨v, vs', rfl, hv, h⟩ := RVs_cons.1 h
    simp only [List.take_succ_cons]
    exact RVs_cons.2 ⟨v, _, rfl, hv, RVs.take n h⟩
theorem RVs.drop {w G H} : ∀ {xs : List V} {vs : List Value} (n : Nat), RVs w G H xs vs → RVs w G H (xs.drop n) (vs.drop n)
  | [], _, n, h => by rw [RVs_nil] at h; subst h; simp [RVs_nil]
  | x :: xs, _, 0, h => by simpa using h
  | x :: xs, _, n + 1, h => by
    obtain ⟨v, vs', rfl, hv, h⟩ := RVs_cons.1 h
    simpa using RVs.drop n h

theorem RDs_nil {w W vs} : RDs w W [] vs ↔ vs = [] := by simp only [RDs]
theorem RDs_cons {w W x xs vs} : RDs w W (x :: xs) vs ↔ ∃ v vs', vs = v :: vs' ∧ RD w W x v ∧ RDs w W xs vs' := by simp only [RDs]
theorem RVs_map_d {w G H} : ∀ {xs : List D} {vs : List Value}, RVs w G H (xs.map V.d) vs ↔ RDs w G.W xs vs
  | [], vs => by simp [RVs_nil, RDs_nil]
  | x :: xs, vs => by
    simp only [List.map_cons, RVs_cons, RDs_cons, RVs, RV, RVs_map_d]
theorem RDs.length {w W xs vs} (h : RDs w W xs vs) : vs.length = xs.length := by
  have := RVs.length (G := ⟨fun _ => 0, W⟩) (H := []) (RVs_map_d.2 h)
  simpa using this

mutual
theorem ofD_ok {w G H} : ∀ (x : D) (v : Value), RD w G.W x v → RV w G H (ofD x) v
  | .agg cs, v, h => by
    simp only [ofD, RV, RD] at h ⊢
    obtain ⟨vs, e, h, h1⟩ := h
    exact ⟨vs, e, RVs_map_d.2 h, h1⟩
  | .tup cs, v, h => by
    simp only [ofD, RV, RD] at h ⊢
    obtain ⟨vs, e, h⟩ := h
    exact ⟨vs, e, ofDs_ok cs vs h⟩
  | .int .., v, h => by simpa only [ofD, RV] using h
  | .bool _, v, h => by simpa only [ofD, RV] using h
  | .str _, v, h => by simpa only [ofD, RV] using h
  | .list _, v, h => by simpa only [ofD, RV] using h
  | .nilI, v, h => by simpa only [ofD, RV] using h
  | .ifc .., v, h => by simpa only [ofD, RV] using h
  | .ref _, v, h => by simpa only [ofD, RV] using h
  | .nilp, v, h => by simpa only [ofD, RV] using h
theorem ofDs_ok {w G H} : ∀ (xs : List D) (vs : List Value), RDs w G.W xs vs → RVs w G H (ofD.ofDs xs) vs
  | [], vs, h => by simp only [ofD.ofDs, RVs_nil]; rwa [RDs_nil] at h
  | x :: xs, vs, h => by
    obtain ⟨v, vs', rfl, hv, h⟩ := RDs_cons.1 h
    simp only [ofD.ofDs]
    exact RVs_cons.2 ⟨v, vs', rfl, ofD_ok x v hv, ofDs_ok xs vs' h⟩
end

mutual
theorem toD_ok {w G H} : ∀ (x : V) (y : D) (v : Value), toD x = some y → RV w G H x v → RD w G.W y v
  | .d x, y, v, e, h => by simp only [toD, Option.some.injEq] at e; subst e; simpa only [RV] using h
  | .vec b rows, y, v, e, h => by simp only [toD, Option.some.injEq] at e; subst e; simp only [RV] at h; exact h.1
  | .nilS, y, v, e, h => by
    simp only [toD, Option.some.injEq] at e; subst e; simp only [RV] at h
    simp only [RD]; exact ⟨none, 0, h, Nat.le_refl _, fun hn => absurd rfl hn⟩
  | .e0, y, v, e, h => by
    simp only [toD, Option.some.injEq] at e; subst e; simp only [RV] at h
    obtain ⟨A, h⟩ := h
    simp only [RD]; exact ⟨A, 0, h, Nat.le_refl _, fun hn => absurd rfl hn⟩
  | .nn rows, y, v, e, h => by simp only [toD, Option.some.injEq] at e; subst e; simp only [RV] at h; exact h.1
  | .ex rows, y, v, e, h => by simp only [toD, Option.some.injEq] at e; subst e; simp only [RV] at h; exact h.1
  | .agg cs, y, v, e, h => by
    simp only [toD, Option.map_eq_some_iff] at e
    obtain ⟨ys, e, rfl⟩ := e
    simp only [RV] at h
    obtain ⟨vs, rfl, h, h1⟩ := h
    simp only [RD]
    exact ⟨vs, rfl, toDs_ok cs ys vs e h, h1⟩
  | .tup cs, y, v, e, h => by
    simp only [toD, Option.map_eq_some_iff] at e
    obtain ⟨ys, e, rfl⟩ := e
    simp only [RV] at h
    obtain ⟨vs, rfl, h⟩ := h
    simp only [RD]
    exact ⟨vs, rfl, toDs_ok cs ys vs e h⟩
  | .arr .., _, _, e, _ => by simp [toD] at e
  | .ptr .., _, _, e, _ => by simp [toD] at e
  | .map .., _, _, e, _ => by simp [toD] at e
  | .fn .., _, _, e, _ => by simp [toD] at e
  | .nilF, _, _, e, _ => by simp [toD] at e
  | .junk, _, _, e, _ => by simp [toD] at e
theorem toDs_ok {w G H} : ∀ (xs : List V) (ys : List D) (vs : List Value), toDs xs = some ys → RVs w G H xs vs → RDs w G.W ys vs
  | [], ys, vs, e, h => by simp only [toDs, Option.some.injEq] at e; subst e; rw [RVs_nil] at h; rwa [RDs_nil]
  | x :: xs, ys, vs, e, h => by
    obtain ⟨v, vs', rfl, hv, h⟩ := RVs_cons.1 h
    simp only [toDs, Option.bind_eq_some_iff, Option.map_eq_some_iff] at e
    obtain ⟨y, e1, ys', e2, rfl⟩ := e
    exact RDs_cons.2 ⟨v, vs', rfl, toD_ok x y v e1 hv, toDs_ok xs ys' vs' e2 h⟩
end

/-! ### Cells -/
theorem one_ok {w G H x v} (h1 : one x = true) (h : RV w G H x v) : v.oneCell' = true ∧ v.cells = #[v] := by
  cases x <;> simp only [one, Bool.false_eq_true] at h1 <;> simp only [RV] at h
  case d x =>
    cases x <;> simp only [Bool.false_eq_true] at h1 <;> simp only [RD] at h
    case list => obtain ⟨_, _, rfl, _⟩ := h; exact ⟨rfl, rfl⟩
    case ifc => obtain ⟨_, rfl, _⟩ := h; exact ⟨rfl, rfl⟩
    case ref => obtain ⟨_, _, rfl, _⟩ := h; exact ⟨rfl, rfl⟩
    all_goals (subst h; exact ⟨rfl, rfl⟩)
  case vec => obtain ⟨h, _⟩ := h; simp only [RD] at h; obtain ⟨_, _, rfl, _⟩ := h; exact ⟨rfl, rfl⟩
  case nn => obtain ⟨h, _⟩ := h; simp only [RD] at h; obtain ⟨_, _, rfl, _⟩ := h; exact ⟨rfl, rfl⟩
  case ex => obtain ⟨h, _⟩ := h; simp only [RD] at h; obtain ⟨_, _, rfl, _⟩ := h; exact ⟨rfl, rfl⟩
  case fn => obtain ⟨_, rfl, _⟩ := h; exact ⟨rfl, rfl⟩
  case nilS => subst h; exact ⟨rfl, rfl⟩
  case e0 => obtain ⟨_, rfl⟩ := h; exact ⟨rfl, rfl⟩
  case nilF => subst h; exact ⟨rfl, rfl⟩
  case arr => obtain ⟨⟨_, _, rfl, _⟩, _⟩ := h; exact ⟨rfl, rfl⟩
  case ptr => obtain ⟨⟨_, rfl⟩, _⟩ := h; exact ⟨rfl, rfl⟩
  case map => obtain ⟨⟨_, rfl⟩, _⟩ := h; exact ⟨rfl, rfl⟩

theorem cellsV_ok {w G H x v c} (hc : cellsV x = some c) (h : RV w G H x v) : RVs w G H c v.cells.toList ∧ ∀ u, u ∈ v.cells.toList → u.oneCell' = true := by
  unfold cellsV at hc
  split at hc
  · simp only [Option.some.injEq] at hc
    subst hc
    simp only [RV] at h
    obtain ⟨vs, rfl, h, h1⟩ := h
    exact ⟨h, h1⟩
  · split at hc
    · rename_i ho
      simp only [Option.some.injEq] at hc
      subst hc
      obtain ⟨h1, h2⟩ := one_ok ho h
      rw [h2]
      refine ⟨RVs_cons.2 ⟨v, [], rfl, h, RVs_nil.2 rfl⟩, fun u hu => ?_⟩
      have : u = v := by simpa using hu
      subst this; exact h1
    · cases hc

/-- Cells of values, each with its one cell. -/
def Ones (vs : List Value) : Prop := ∀ u, u ∈ vs → u.oneCell' = true
theorem Ones.append {l r : List Value} (h : Ones l) (k : Ones r) : Ones (l ++ r) := fun u hu => by
  rcases List.mem_append.1 hu with hu | hu
  · exact h u hu
  · exact k u hu
theorem Ones.take {l : List Value} (h : Ones l) (n : Nat) : Ones (l.take n) := fun u hu => h u (List.mem_of_mem_take hu)
theorem Ones.drop {l : List Value} (h : Ones l) (n : Nat) : Ones (l.drop n) := fun u hu => h u (List.mem_of_mem_drop hu)
theorem Ones.get {l : List Value} (h : Ones l) {i : Nat} {v : Value} (hi : l[i]? = some v) : v.oneCell' = true := h v (List.mem_of_getElem? hi)

end Go.Vm
