/- Calls: in place, by value; what a whole program's run in the machine is worth. -/
import Derived.Test.YtjffpbodflkehaaGreatDoorOVmStep
set_option linter.unusedVariables false
set_option linter.unusedSimpArgs false
namespace Go.Vm
open Go.RowKit

section
variable {P : Program} {E : Env} {w : World} {G : Gh} {H : List Blk}

/-! ### What a call gives -/
theorem load_run {t : TypeId} {agg : Bool} {n : Nat} {x : V} {u : Value} {r : V} {H' : List Blk} (e : (aLoad agg n x).run H = some (r, H')) (hv : okVar P t agg n = true) (h1 : RV w G H x u) (hs : HS G H w) :
    ∃ a v, u = .pointer (some a) ∧ (loadVar t a).run P w = .ok v w ∧ RV w G H r v := by
  rw [aLoad_eq] at e
  unfold sLoad at e
  split at e
  · rename_i b ver off
    simp only [Eff.run] at e
    split at e
    · rename_i ver' cells hb
      obtain ⟨cs, hh, hl, hW, hr, hone⟩ := BR.read hs hb
      simp only [Eff.run, Option.map_eq_some_iff, Prod.mk.injEq] at e
      obtain ⟨r', e, rfl, rfl⟩ := e
      split at e
      · rename_i hc
        obtain ⟨rfl, hlen⟩ := hc
        simp only [RV] at h1
        have hp := (h1.2.2 _ _ hb).2 rfl
        have hd := (hr.drop off).take n
        have hlv : (((cs.toList.take cells.length).drop off).take n).length = n := by simp; omega
        have hld := load_var (P := P) (w := w) (g := G.σ b) (off := off) hv hlv (fun i v hi => by
          rw [hh.cell]
          rw [List.getElem?_take] at hi
          split at hi
          · rw [List.getElem?_drop, List.getElem?_take] at hi
            split at hi
            · simpa using hi
            · cases hi
          · cases hi)
        split at e
        · rename_i ha
          subst ha
          cases e
          refine ⟨_, _, hp, hld (fun h => by cases h), ?_⟩
          simp only [RV, if_true]
          exact ⟨_, rfl, hd, (hone.drop _).take _⟩
        · rename_i ha
          split at e
          · rename_i hn
            subst hn
            refine ⟨_, _, hp, hld (fun _ => rfl), ?_⟩
            rw [if_neg ha]
            obtain ⟨v, hv, hr⟩ := hd.get (i := 0) (x := r') (by simp [e])
            simpa [List.getD, hv] using hr
          · cases e
      · cases e
    · simp only [Eff.run] at e; cases e
  · rename_i cells
    simp only [Eff.run, Option.map_eq_some_iff, Prod.mk.injEq] at e
    obtain ⟨r', e, rfl, rfl⟩ := e
    simp only [RV, RD] at h1
    obtain ⟨g, off, hp, hc⟩ := h1
    obtain ⟨vs, hl, hd, hg⟩ := RDcells_get hc
    split at e
    · rename_i hn
      have hlv : (vs.take n).length = n := by simp; omega
      have hd' := RDs.take n hd
      have hld := load_var (P := P) (w := w) (g := g) (off := off) hv hlv (fun i v hi => by
        rw [List.getElem?_take] at hi
        split at hi
        · exact (hg i v hi).1
        · cases hi)
      split at e
      · rename_i ha
        subst ha
        cases e
        refine ⟨_, _, hp, hld (fun h => by cases h), ?_⟩
        simp only [RV, if_true]
        exact ⟨_, rfl, RVs_map_d.2 hd', fun u hu => by
          obtain ⟨i, hi⟩ := List.mem_iff_getElem?.1 (List.mem_of_mem_take hu)
          exact (hg i u hi).2.2⟩
      · rename_i ha
        split at e
        · rename_i hn
          subst hn
          simp only [Option.map_eq_some_iff] at e
          obtain ⟨d, e, rfl⟩ := e
          refine ⟨_, _, hp, hld (fun _ => rfl), ?_⟩
          rw [if_neg ha]
          have hh := RVs.get (G := G) (H := H) (RVs_map_d.2 hd') (i := 0) (x := .d d) (by simp [List.getElem?_take, e])
          obtain ⟨v, hv, hr⟩ := hh
          simpa [List.getD, hv] using hr
        · cases e
    · cases e
  · simp only [Eff.run, Option.map_none] at e; cases e

def chkRes (P : Program) : List Res → List ResultVar → Bool
  | [], [] => true
  | .tmp t :: rs, .tmp t' :: qs => t == t' && chkRes P rs qs
  | .cell t agg n :: rs, .cell t' ty :: qs => t == t' && okVar P ty agg n && chkRes P rs qs
  | _, _ => false

def resVal (tmps : Array Value) (q : ResultVar) : Sem Value := match q with
  | .tmp t => pure (tmps.getD t undef)
  | .cell c t => do loadVar t (← asAddr (tmps.getD c undef))
theorem results_eq (fn : Func) (tmps : Array Value) : Go.results fn tmps = (do
    let vs ← fn.results.mapM (resVal tmps)
    pure (if h : vs.size = 1 then vs[0] else .tuple vs)) := by
  unfold Go.results
  congr 2
theorem asAddr_ok (a : Addr) (w : World) : (asAddr (.pointer (some a))).run P w = .ok a w := rfl

theorem resAll_ok {N : Nat} {S : St} {a : Act} (hT : TR w G S.heap N S.tmps a) (hs : HS G S.heap w) : ∀ {rs : List Res} {qs : List ResultVar} {xs : List V}, chkRes P rs qs = true → resAll S rs = some xs →
    ∃ vs : List Value, (qs.mapM (resVal a.tmps)).run P w = .ok vs w ∧ RVs w G S.heap xs vs
  | [], [], xs, _, h => by
    simp only [resAll, Option.some.injEq] at h
    subst h
    exact ⟨[], by simp, by rw [RVs_nil]⟩
  | .tmp t :: rs, .tmp t' :: qs, xs, hc, h => by
    simp only [chkRes, Bool.and_eq_true, beq_iff_eq] at hc
    obtain ⟨rfl, hc⟩ := hc
    simp only [resAll, res1, Option.bind_some, Option.bind_eq_some_iff, Option.some.injEq] at h
    obtain ⟨xs', h, rfl⟩ := h
    obtain ⟨vs, e1, e2⟩ := resAll_ok hT hs hc h
    refine ⟨a.tmps.getD t undef :: vs, ?_, RVs_cons.2 ⟨_, _, rfl, hT.tmp t, e2⟩⟩
    rw [List.mapM_cons]
    simp only [Sem.run_bind, resVal, Sem.run_pure, Result.andThen_ok, e1]
  | .cell t agg n :: rs, .cell t' ty :: qs, xs, hc, h => by
    simp only [chkRes, Bool.and_eq_true, beq_iff_eq] at hc
    obtain ⟨⟨rfl, hv⟩, hc⟩ := hc
    simp only [resAll, res1, loadV, Option.bind_eq_some_iff, Option.map_eq_some_iff, Option.some.injEq] at h
    obtain ⟨y, ⟨⟨y', H'⟩, hy, rfl⟩, xs', h, rfl⟩ := h
    obtain ⟨vs, e1, e2⟩ := resAll_ok hT hs hc h
    obtain ⟨c, v, g1, g2, g3⟩ := load_run hy hv (hT.tmp t) hs
    refine ⟨v :: vs, ?_, RVs_cons.2 ⟨_, _, rfl, g3, e2⟩⟩
    rw [List.mapM_cons]
    have h9 : (resVal a.tmps (.cell t ty)).run P w = .ok v w := by
      simp only [resVal, Sem.run_bind, g1, asAddr_ok, Result.andThen_ok, g2]
    simp only [Sem.run_bind, h9, Sem.run_pure, Result.andThen_ok, e1]
  | [], _ :: _, _, hc, _ => by simp [chkRes] at hc
  | .tmp _ :: _, [], _, hc, _ => by simp [chkRes] at hc
  | .cell .. :: _, [], _, hc, _ => by simp [chkRes] at hc
  | .tmp _ :: _, .cell .. :: _, _, hc, _ => by simp [chkRes] at hc
  | .cell .. :: _, .tmp _ :: _, _, hc, _ => by simp [chkRes] at hc

theorem results_ok {N : Nat} {S : St} {a : Act} {fn : Func} {rs : List Res} {r : V} (hT : TR w G S.heap N S.tmps a) (hs : HS G S.heap w) (hc : chkRes P rs fn.results.toList = true) (h : results S rs = some r) :
    ∃ v, (Go.results fn a.tmps).run P w = .ok v w ∧ RV w G S.heap r v := by
  have key : ∀ xs, resAll S rs = some xs → ∃ vs : List Value, (Go.results fn a.tmps).run P w = .ok (if h : vs.toArray.size = 1 then vs.toArray[0] else .tuple vs.toArray) w ∧ RVs w G S.heap xs vs := fun xs hx => by
    obtain ⟨vs, e1, e2⟩ := resAll_ok hT hs hc hx
    refine ⟨vs, ?_, e2⟩
    rw [results_eq, Sem.run_bind, show fn.results = fn.results.toList.toArray by simp]
    simp only [List.mapM_toArray]
    simp only [Sem.run_map, e1, Result.andThen_ok, Sem.run_pure]
  have many : ∀ xs, resAll S rs = some xs → rs.length ≠ 1 → r = .tup xs → ∃ v, (Go.results fn a.tmps).run P w = .ok v w ∧ RV w G S.heap r v := fun xs hx hne hr => by
    obtain ⟨vs, e1, e2⟩ := key xs hx
    subst hr
    refine ⟨.tuple vs.toArray, ?_, by simp only [RV]; exact ⟨vs, rfl, e2⟩⟩
    rw [e1]
    have hrl : ∀ {rs : List Res} {xs : List V}, resAll S rs = some xs → rs.length = xs.length := by
      intro rs
      induction rs with
      | nil => intro xs h; simp [resAll] at h; subst h; rfl
      | cons q rs ih =>
        intro xs h
        simp only [resAll, Option.bind_eq_some_iff, Option.some.injEq] at h
        obtain ⟨_, _, xs', h, rfl⟩ := h
        simp [ih h]
    have hl : vs.length ≠ 1 := by
      rw [e2.length, ← hrl hx]; exact hne
    simp [hl]
  unfold results at h
  split at h
  · simp only [Option.bind_eq_some_iff, Option.some.injEq] at h
    obtain ⟨xs, hx, rfl⟩ := h
    exact many xs hx (by simp) rfl
  · rename_i q
    obtain ⟨vs, e1, e2⟩ := key [r] (by simp [resAll, h])
    obtain ⟨v, vs', rfl, h1, h2⟩ := RVs_cons.1 e2
    rw [RVs_nil] at h2
    subst h2
    exact ⟨v, by simpa using e1, h1⟩
  · simp only [Option.bind_eq_some_iff, Option.some.injEq] at h
    obtain ⟨xs, hx, rfl⟩ := h
    exact many xs hx (by simp) rfl

/-! ### A value as data -/
theorem rowsD_ok {f : V → Option D} {W : Nat → Option Nat} (hf : ∀ x d v, f x = some d → RV w G H x v → RD w W d v) {g sz : Nat} (hg : ∀ o, imm W g o) : ∀ {n : Nat} {cells : List V} {rows : List (List D)} {o : Nat}, rowsD f sz n cells = some rows →
    (∀ (i : Nat) (x : V), cells[i]? = some x → i < n * sz → ∃ v, w.cell? ⟨g, o + i, none⟩ = some v ∧ v.oneCell' = true ∧ RV w G H x v) → rows.length = n ∧ RDrows w W g sz o rows
  | 0, _, rows, o, h, _ => by
    simp only [rowsD, Option.some.injEq] at h
    subst h
    exact ⟨rfl, by simp only [RDrows]⟩
  | n + 1, cells, rows, o, h, hc => by
    simp only [rowsD, Option.bind_eq_some_iff] at h
    obtain ⟨r, hr, h⟩ := h
    split at h
    · rename_i hl
      simp only [Option.map_eq_some_iff] at h
      obtain ⟨rs, h, rfl⟩ := h
      have hcells : ∀ (l : List V) (r : List D) (o : Nat), cellsD f l = some r → (∀ (i : Nat) (x : V), l[i]? = some x → ∃ v, w.cell? ⟨g, o + i, none⟩ = some v ∧ v.oneCell' = true ∧ RV w G H x v) → RDcells w W g o r := by
        intro l
        induction l with
        | nil => intro r o h _; simp [cellsD] at h; subst h; simp only [RDcells]
        | cons x l ih =>
          intro r o h hx
          simp only [cellsD, Option.bind_eq_some_iff, Option.map_eq_some_iff] at h
          obtain ⟨d, hd, ds, h, rfl⟩ := h
          obtain ⟨v, e1, e2, e3⟩ := hx 0 x rfl
          simp only [RDcells]
          refine ⟨⟨v, by simpa using e1, hg o, e2, hf x d v hd e3⟩, ih ds (o + 1) h fun i y hy => ?_⟩
          have := hx (i + 1) y (by simpa using hy)
          rwa [show o + (i + 1) = o + 1 + i by omega] at this
      have htk : (cells.take sz).length = sz := by
        have hlen : ∀ (l : List V) (r : List D), cellsD f l = some r → r.length = l.length := by
          intro l
          induction l with
          | nil => intro r h; simp [cellsD] at h; subst h; rfl
          | cons x l ih =>
            intro r h
            simp only [cellsD, Option.bind_eq_some_iff, Option.map_eq_some_iff] at h
            obtain ⟨d, _, ds, h, rfl⟩ := h
            simp [ih ds h]
        rw [← hlen _ _ hr]; exact hl
      obtain ⟨g1, g2⟩ := rowsD_ok hf hg (o := o + sz) h (fun i x hx hi => by
        rw [List.getElem?_drop] at hx
        have := hc (sz + i) x hx (by rw [Nat.add_mul]; omega)
        rwa [show o + (sz + i) = o + sz + i by omega] at this)
      refine ⟨by simp [g1], ?_⟩
      simp only [RDrows]
      refine ⟨hl, hcells _ r o hr fun i x hx => ?_, g2⟩
      rw [List.getElem?_take] at hx
      split at hx
      · rename_i hi
        exact hc i x hx (by rw [Nat.add_mul]; omega)
      · cases hx
    · cases h

mutual
theorem toDW_ok {f : V → Option D} {W : Nat → Option Nat} (hs : HS G H w) (hk : Keep w G.W w W) (hf : ∀ x d v, f x = some d → RV w G H x v → RD w W d v) (hW : ∀ b, (getB H b).act → ∀ o, imm W (G.σ b) o) : ∀ (x : V) (d : D) (v : Value), toDW f H x = some d → RV w G H x v → RD w W d v
  | .agg cs, d, v, h, hr => by
    simp only [toDW, Option.map_eq_some_iff] at h
    obtain ⟨ds, h, rfl⟩ := h
    simp only [RV] at hr
    obtain ⟨vs, rfl, hr, h1⟩ := hr
    simp only [RD]
    exact ⟨vs, rfl, toDWs_ok hs hk hf hW cs ds vs h hr, h1⟩
  | .tup cs, d, v, h, hr => by
    simp only [toDW, Option.map_eq_some_iff] at h
    obtain ⟨ds, h, rfl⟩ := h
    simp only [RV] at hr
    obtain ⟨vs, rfl, hr⟩ := hr
    simp only [RD]
    exact ⟨vs, rfl, toDWs_ok hs hk hf hW cs ds vs h hr⟩
  | .arr b ver sz off len, d, v, h, hr => by
    simp only [toDW] at h
    split at h
    · rename_i ver' cells hb
      split at h
      · rename_i hc
        obtain ⟨rfl, hfit⟩ := hc
        simp only [Option.map_eq_some_iff] at h
        obtain ⟨rows, h, rfl⟩ := h
        obtain ⟨cs, hh, hcl, _, hrc, hone⟩ := BR.read hs hb
        simp only [RV] at hr
        obtain ⟨_, _, hr⟩ := hr
        obtain ⟨a, cap, cs', rfl, hlc, ha, hab, hh', hcap⟩ := (hr _ _ hb).2 rfl
        obtain rfl := hh.uniq hh'
        obtain ⟨e1, e2⟩ := rowsD_ok (g := G.σ b) (o := off) hf (hW b (by rw [hb]; trivial)) h (fun i x hx hi => by
          rw [List.getElem?_drop] at hx
          obtain ⟨v, hv, hrv⟩ := hrc.get hx
          refine ⟨v, ?_, hone.get hv, hrv⟩
          rw [hh.cell]
          rw [List.getElem?_take] at hv
          split at hv
          · simpa using hv
          · cases hv)
        simp only [RD]
        refine ⟨_, _, by rw [e1], by omega, fun hne => ⟨G.σ b, off, sz, ?_, e2⟩⟩
        have : rows.length ≠ 0 := by simpa using hne
        rw [ha (by omega)]
      · cases h
    · cases h
  | .d x, d, v, h, hr => RD.keep hk _ _ (toD_ok _ d v (by simpa [toDW] using h) hr)
  | .vec b rows, d, v, h, hr => RD.keep hk _ _ (toD_ok _ d v (by simpa [toDW] using h) hr)
  | .nilS, d, v, h, hr => RD.keep hk _ _ (toD_ok _ d v (by simpa [toDW] using h) hr)
  | .e0, d, v, h, hr => RD.keep hk _ _ (toD_ok _ d v (by simpa [toDW] using h) hr)
  | .nn rows, d, v, h, hr => RD.keep hk _ _ (toD_ok _ d v (by simpa [toDW] using h) hr)
  | .ex rows, d, v, h, hr => RD.keep hk _ _ (toD_ok _ d v (by simpa [toDW] using h) hr)
  | .ptr .., d, v, h, hr => by simp [toDW, toD] at h
  | .map _, d, v, h, hr => by simp [toDW, toD] at h
  | .fn .., d, v, h, hr => by simp [toDW, toD] at h
  | .nilF, d, v, h, hr => by simp [toDW, toD] at h
  | .junk, d, v, h, hr => by simp [toDW, toD] at h
theorem toDWs_ok {f : V → Option D} {W : Nat → Option Nat} (hs : HS G H w) (hk : Keep w G.W w W) (hf : ∀ x d v, f x = some d → RV w G H x v → RD w W d v) (hW : ∀ b, (getB H b).act → ∀ o, imm W (G.σ b) o) : ∀ (xs : List V) (ds : List D) (vs : List Value), toDWs f H xs = some ds → RVs w G H xs vs → RDs w W ds vs
  | [], ds, vs, h, hr => by
    simp only [toDWs, Option.some.injEq] at h
    subst h
    rw [RVs_nil] at hr
    rw [RDs_nil]; exact hr
  | x :: xs, ds, vs, h, hr => by
    simp only [toDWs, Option.bind_eq_some_iff, Option.map_eq_some_iff] at h
    obtain ⟨d, hd, ds', h, rfl⟩ := h
    obtain ⟨v, vs', rfl, h1, h2⟩ := RVs_cons.1 hr
    exact RDs_cons.2 ⟨v, vs', rfl, toDW_ok hs hk hf hW x d v hd h1, toDWs_ok hs hk hf hW xs ds' vs' h h2⟩
end
theorem toDH_ok {W : Nat → Option Nat} (hs : HS G H w) (hk : Keep w G.W w W) (hW : ∀ b, (getB H b).act → ∀ o, imm W (G.σ b) o) : ∀ (k : Nat) (x : V) (d : D) (v : Value), toDH H k x = some d → RV w G H x v → RD w W d v
  | 0, x, d, v, h, hr => RD.keep hk _ _ (toD_ok x d v h hr)
  | k + 1, x, d, v, h, hr => toDW_ok hs hk (fun x d v => toDH_ok hs hk hW k x d v) hW x d v h hr

theorem ofD_map {w : World} {W : Nat → Option Nat} {σ : Nat → Nat} {H : List Blk} : ∀ {ds : List D} {vs : List Value}, RDs w W ds vs → RVs w ⟨σ, W⟩ H (ds.map ofD) vs
  | [], vs, h => by rw [RDs_nil] at h; rw [List.map_nil, RVs_nil]; exact h
  | x :: ds, vs, h => by
    obtain ⟨v, vs', rfl, h1, h2⟩ := RDs_cons.1 h
    exact RVs_cons.2 ⟨v, vs', rfl, ofD_ok (G := ⟨σ, W⟩) x v h1, ofD_map h2⟩

theorem HS.nil (G : Gh) (w : World) : HS G [] w := ⟨fun b => trivial, fun b c h => h.elim⟩

/-- A call by value, of a call in place with a heap of its own. -/
theorem byValue {w : World} {W : Nat → Option Nat} {σ : Nat → Nat} {H' : List Blk} {r : V} {d : D} {v : Value} {w' : World} (h : Post w ⟨σ, W⟩ [] H' r v w') (hd : toDH H' depth r = some d) : ∃ W', RD w' W' d v ∧ Far w W w' W' := by
  obtain ⟨G', h1, h2, h3⟩ := h
  have hfr : ∀ g, g < w.heap.size → w'.heap[g]? = w.heap[g]? ∧ G'.W g = W g := fun g hg => h3.frame g hg (fun b hb => hb.elim)
  have hk : Keep w' G'.W w' (fun g => if g < w.heap.size then W g else none) := ⟨fun g o v hv hi => ⟨hv, fun m hm => by
    simp only at hm
    split at hm
    · rename_i hg
      exact hi m (by rw [(hfr g hg).2]; exact hm)
    · cases hm⟩⟩
  refine ⟨_, toDH_ok h2 hk (fun b hb o m hm => ?_) depth r d v hd h1, ⟨h3.ext.keep.trans hk, h3.os, h3.tape, h3.output, h3.size, fun g hg => ⟨(hfr g hg).1, by simp [hg]⟩⟩⟩
  simp only at hm
  split at hm
  · rename_i hg
    rcases h3.own b hb with ⟨h4, _⟩ | h4
    · exact h4.elim
    · omega
  · cases hm

/-! ### A program -/
def chkFn (P : Program) (E : Env) (j : Nat) (fn : Fn) : Bool :=
  match P.funcs[fn.fid]? with
  | some F => fn.fid == E.fid j && F.name != "runtime.NumGoroutine" && decide (fn.np ≤ F.ntmps) && chkRes P fn.res F.results.toList && (match F.body with
    | some code => chkC P E F.ntmps fn.body code
    | none => false)
  | none => false

/-- What functions that are told by what they answer are worth. -/
def PrimOK (P : Program) (E : Env) (Φ : Prog) : Prop := ∀ j ds r, Φ.fn j = none → Φ.prim j ds = some r → ∀ (w : World) (W : Nat → Option Nat) (args : List Value), RDs w W ds args →
  Does P (callFunc (E.fid j) args.toArray) w (fun v w' => ∃ W', RD w' W' r v ∧ Far w W w' W')

structure ProgOK (P : Program) (E : Env) (Φ : Prog) : Prop where
  fn : ∀ j fn, Φ.fn j = some fn → chkFn P E j fn = true
  fid : ∀ f, f < 10000 → E.fid f = f
  prim : PrimOK P E Φ
  spec : Spec P E

theorem getD_args (args : List Value) (n t : Nat) : (args.toArray ++ Array.replicate n undef).getD t undef = (args[t]?).getD undef := by
  simp only [Array.getD_eq_getD_getElem?, Array.getElem?_append, List.size_toArray, List.getElem?_toArray, Array.getElem?_replicate]
  split
  · rfl
  · rw [List.getElem?_eq_none (by omega)]
    split <;> rfl

theorem getT_dead (n t : Nat) : getT (List.replicate n .junk) t = .junk := by
  induction n generalizing t with
  | zero => rfl
  | succ n ih => cases t with
    | zero => rfl
    | succ t => simp only [List.replicate_succ, getT_nil, getT_zero, getT_succ]; exact ih t
theorem getT_init (args : List V) (np n t : Nat) : getT (initT args np n) t = if t < np then getT args t else .junk := by
  unfold initT
  have hl : ∀ (np i : Nat), (listT args np i).length = np := by
    intro np
    induction np with
    | zero => intro i; rfl
    | succ np ih => intro i; simp [listT, ih]
  have ha : ∀ (l r : List V) (t : Nat), getT (l ++ r) t = if t < l.length then getT l t else getT r (t - l.length) := by
    intro l r
    induction l with
    | nil => intro t; simp
    | cons x l ih => intro t; cases t with
      | zero => simp [getT_nil, getT_zero, getT_succ]
      | succ t => simp only [List.cons_append, getT_nil, getT_zero, getT_succ, List.length_cons]; rw [ih]; simp
  rw [ha, hl, getT_list, getT_dead, Nat.zero_add]
  split <;> simp_all

theorem tidy_ok {r r0 : V} {H' H0 : List Blk} {v : Value} {w' : World} (h : tidy H.length (r0, H0) = (r, H')) (hp : Post w G H H0 r0 v w') : Post w G H H' r v w' := by
  unfold tidy at h
  split at h
  · rename_i hc
    simp only [Bool.and_eq_true] at hc
    cases h
    obtain ⟨G', h1, h2, h3⟩ := hp
    refine ⟨G', noRef_ok rfl (fun b hb => ⟨?_, rfl⟩) _ v hc.1 h1, take_ok h2 hc.2, h3.take (Nat.le_refl _)⟩
    rw [getB_take, if_pos (by simpa using hb)]
  · cases h; exact hp
theorem call_ok {Φ : Prog} (hΦ : ProgOK P E Φ) : ∀ k, IcOK P E.fid (call Φ k) := by
  intro k
  induction k with
  | zero => intro j xs H r H' h; simp [call] at h
  | succ k ih =>
    have hpc : PcOK P E.fid (fun j ds => (call Φ k j (ds.map ofD) []).bind fun r => toDH r.2 depth r.1) := by
      intro j ds d h w W args hx
      simp only [Option.bind_eq_some_iff] at h
      obtain ⟨⟨r, H'⟩, h1, h2⟩ := h
      exact (ih j _ [] r H' h1 w ⟨fun _ => 0, W⟩ args (ofD_map hx) (HS.nil _ _)).mono fun v w' hp => byValue hp h2
    intro j xs H r H' h w G args hx hs
    simp only [call] at h
    split at h
    · rename_i hn
      simp only [Option.map_eq_some_iff, Option.bind_eq_some_iff, Prod.mk.injEq] at h
      obtain ⟨d, ⟨ds, hd, hp⟩, rfl, rfl⟩ := h
      refine (hΦ.prim j ds d hn hp w G.W args (toDs_ok xs ds args hd hx)).mono fun v w' => ?_
      rintro ⟨W', hv, hf⟩
      obtain ⟨hT, hS⟩ := hf.T hs
      exact ⟨_, ofD_ok (G := ⟨G.σ, W'⟩) d v hv, hS, hT⟩
    · rename_i fn hfn
      have hc := hΦ.fn j fn hfn
      unfold chkFn at hc
      split at hc
      · rename_i F hF
        simp only [Bool.and_eq_true, beq_iff_eq, decide_eq_true_eq] at hc
        obtain ⟨⟨⟨⟨hfid, hname⟩, hnp⟩, hres⟩, hbody⟩ := hc
        split at hbody
        · rename_i code hcode
          simp only [Option.map_eq_some_iff] at h
          obtain ⟨⟨r0, H0⟩, h, htidy⟩ := h
          suffices hpost : Does P (callFunc (E.fid j) args.toArray) w (Post w G H H0 r0) from hpost.mono fun v w' hp => tidy_ok htidy hp
          unfold runF at h
          split at h
          · rename_i hlen
            simp only [Option.bind_eq_some_iff] at h
            obtain ⟨⟨e, S'⟩, h1, h2⟩ := h
            have hal : args.length = fn.np := by rw [hx.length, hlen]
            have hok : okFn P (E.fid j) = true := by
              unfold okFn
              rw [← hfid, hF]
              simp [hcode, hname]
            have hTR : TR w G H F.ntmps (initT xs fn.np fn.ntmps) { tmps := args.toArray ++ Array.replicate (F.ntmps - args.toArray.size) undef, defers := [] } := by
              refine ⟨by simp; omega, rfl, fun t => ?_⟩
              show RV w G H (getT (initT xs fn.np fn.ntmps) t) ((args.toArray ++ Array.replicate _ undef).getD t undef)
              rw [getD_args, getT_init]
              by_cases ht : t < xs.length
              · have hg : xs[t]? = some (getT xs t) := by
                  have : ∀ (l : List V) (t : Nat), t < l.length → l[t]? = some (getT l t) := by
                    intro l
                    induction l with
                    | nil => intro t h; simp at h
                    | cons y l ih => intro t h; cases t with
                      | zero => simp [getT_nil, getT_zero, getT_succ]
                      | succ t => simpa [getT_nil, getT_zero, getT_succ] using ih t (by simpa using h)
                  exact this xs t ht
                obtain ⟨v, hv, hr⟩ := hx.get hg
                rw [hv, if_pos (by omega)]; exact hr
              · rw [if_neg (by omega)]; simp only [RV]
            have hwp := step_ok hΦ.spec hpc ih hΦ.fid k fn.body code hbody ⟨0, initT xs fn.np fn.ntmps, H⟩ e S' h1 (w := w) (G := G)
              (a := { tmps := args.toArray ++ Array.replicate (F.ntmps - args.toArray.size) undef, defers := [] })
              (Q := bodyPost P F fun e w' => ∃ v, e = .returned v ∧ Post w G H H0 r0 v w') hTR hs (fun a' w' G' hT' hs' h0' => by
                have fin : ∀ r', results S' fn.res = some r' → (r', S'.heap) = (r0, H0) → a'.defers = [] ∧ ∃ v, (Go.results F a'.tmps).run P w' = .ok v w' ∧ ∃ u, Ending.returned v = .returned u ∧ Post w G H H0 r0 u w' := fun r' hr' he => by
                  cases he
                  obtain ⟨v, g1, g2⟩ := results_ok (fn := F) hT' hs' hres hr'
                  exact ⟨hT'.defers, v, g1, v, rfl, G', g2, hs', h0'⟩
                cases e with
                | nrm =>
                  simp only [Option.map_eq_some_iff] at h2
                  obtain ⟨r', hr', he⟩ := h2
                  exact fin r' hr' he
                | exit i => cases h2
                | ret =>
                  simp only [Option.map_eq_some_iff] at h2
                  obtain ⟨r', hr', he⟩ := h2
                  exact fin r' hr' he)
            unfold Does
            rw [callFunc_enter hok]
            exact calls_of_wp (hfid ▸ hF) hcode hwp
          · cases h
        · cases hbody
      · cases hc

theorem pcall_ok {Φ : Prog} (hΦ : ProgOK P E Φ) (k : Nat) : PcOK P E.fid (pcall Φ k) := by
  intro j ds d h w W args hx
  unfold pcall at h
  simp only [Option.bind_eq_some_iff] at h
  obtain ⟨⟨r, H'⟩, h1, h2⟩ := h
  exact (call_ok hΦ k j _ [] r H' h1 w ⟨fun _ => 0, W⟩ args (ofD_map hx) (HS.nil _ _)).mono fun v w' hp => byValue hp h2
end
end Go.Vm
