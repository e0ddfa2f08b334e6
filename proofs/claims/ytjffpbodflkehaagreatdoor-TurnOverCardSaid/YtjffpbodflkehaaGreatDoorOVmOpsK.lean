/- Operations of the machine: copy, clear; '==' of structs; maps. -/
import Derived.Test.YtjffpbodflkehaaGreatDoorOVmOpsJ
import Derived.MapKept
set_option linter.unusedVariables false
set_option linter.unusedSimpArgs false
namespace Go.Vm
open Go.RowKit

section
variable {P : Program} {o : Oper} {ρ : Operand → Value} {w : World} {G : Gh} {H : List Blk} {pc : Nat → List D → Option D} {base : Nat}

/-- A block whose row stays. -/
theorem keep_mem (hs : HS G H w) {q ver : Nat} {cells : List V} (hb : getB H q = .mem ver cells) :
    HS ⟨G.σ, upd G.W (G.σ q) (some 0)⟩ (setB H q (.mem ver cells)) w ∧ T w G H w ⟨G.σ, upd G.W (G.σ q) (some 0)⟩ (setB H q (.mem ver cells)) := by
  obtain ⟨cs, hh, hcl, hW, hrc, hone⟩ := BR.read hs hb
  have hact : (getB H q).act := by rw [hb]; trivial
  have hw : Wrote w w (G.σ q) cs := ⟨rfl, rfl, rfl, rfl, fun _ _ => rfl, hh⟩
  have hself : Ext w G H w ⟨G.σ, upd G.W (G.σ q) (some 0)⟩ (setB H q (.mem ver cells)) :=
    Ext.wrote hw hh rfl hW (Nat.le_refl _) (fun _ _ => rfl) (by simp) (fun _ _ e => by cases e; exact ⟨_, _, hb, Nat.le_refl _⟩) (fun _ _ e => by cases e) (fun _ e => by cases e)
  refine ⟨hs.wrote hw hact hself (BR.mem (cs := cs) hh (upd_same _ _ _) (vs := cs.toList.take cells.length) (RVs.ext hself _ _ hrc) hone (fun j v hj => ?_)), T.wrote hw hact hself⟩
  rw [List.getElem?_take] at hj
  split at hj
  · simpa using hj
  · cases hj

/-- Cells that are put into a slice: the model's own store. -/
theorem put_cells (hs : HS G H w) {q ver sz off len n : Nat} {cells c : List V} {vs : List Value} {x : Value} (hb : getB H q = .mem ver cells) (hx : RV w G H (.arr q ver sz off len) x) (hr : RVs w G H c vs) (ho : Ones vs) (hn : n ≤ len)
    (hl : vs.length = n * sz) (hp : 0 < sz) (hfit : off + c.length ≤ cells.length) :
    ∃ base' cap w' G', x = .slice (some base') len cap ∧ (storeCells base' vs).run P w = .ok () w' ∧ HS G' (setB H q (.mem ver (splice cells off c))) w' ∧ T w G H w' G' (setB H q (.mem ver (splice cells off c))) := by
  have hv := hx
  simp only [RV] at hv
  obtain ⟨_, _, hv⟩ := hv
  obtain ⟨a, cap, cs, rfl, hlc, ha, hab, hh, hcap⟩ := (hv _ _ hb).2 rfl
  by_cases h0 : cap = 0
  · have hn0 : n = 0 := by omega
    subst hn0
    have hvs : vs = [] := List.eq_nil_of_length_eq_zero (by rw [hl]; simp)
    subst hvs
    have hc : c = [] := List.eq_nil_of_length_eq_zero (by have := hr.length; simp at this; omega)
    subst hc
    have he : splice cells off [] = cells := by simp [splice]
    rw [he]
    obtain ⟨h1, h2⟩ := keep_mem hs hb
    exact ⟨a, cap, w, _, rfl, by simp [storeCells], h1, h2⟩
  · have ha' := ha (Nat.pos_of_ne_zero h0)
    subst ha'
    obtain ⟨cs0, w', hh0, hw', hf, hs', hT⟩ := write_mem hs hb (off := off) hr ho hfit
    obtain rfl := hh.uniq hh0
    have hst := storeCells_run (P := P) (w := w) hh hf ho
    exact ⟨_, cap, w', _, rfl, by rw [hst, hw'], hs', hT⟩

/-- The element's size of a slice's type, at least one. -/
def okElem1 (P : Program) (t : TypeId) (sz : Nat) : Bool := okElem P t sz && decide (0 < sz)

theorem op_copy {t u : TypeId} {sz : Nat} {x y : Operand} {xs : List V} (ho : o.op = .call { callee := .builtin .copy, args := #[x, y], argTypes := #[t, u] }) (hk : okElem1 P t sz = true)
    (hx : RVs w G H xs [ρ x, ρ y]) (hs : HS G H w) : Good P o ρ w G H (act pc base (.copy sz) xs) := by
  obtain ⟨vx, vy, rfl, h1, h2⟩ := RVs2 hx
  simp only [okElem1, Bool.and_eq_true, decide_eq_true_eq] at hk
  obtain ⟨e, hu, hsz⟩ := okElem_ok hk.1
  simp only [act, a2, aCopy]
  intro r H' eq
  have q0 := src_run (P := P) eq h2 hs
  clear eq
  obtain ⟨m, new, news, hsrc, hrn, eq⟩ := q0
  obtain ⟨hm, hnl⟩ := hsrc.count hrn hk.2
  rw [hm] at eq
  split at eq
  · rename_i q ver sz' off len
    simp only [Eff.run, Option.map_eq_some_iff] at eq
    obtain ⟨⟨blk, v⟩, eq, e1⟩ := eq
    simp only [Prod.mk.injEq] at e1
    obtain ⟨rfl, rfl⟩ := e1
    split at eq
    · rename_i ver' cells hb
      split at eq
      · rename_i hc
        obtain ⟨rfl, rfl, hfit⟩ := hc
        simp only [Option.some.injEq, Prod.mk.injEq] at eq
        obtain ⟨rfl, rfl⟩ := eq
        have hle : Nat.min m len ≤ m := Nat.min_le_left _ _
        have hmul := Nat.mul_le_mul_right sz' hle
        obtain ⟨a, cap, w', G', hp, hst, hs', hT⟩ := put_cells (P := P) (n := Nat.min m len) (c := new.take (Nat.min m len * sz')) (vs := news.take (Nat.min m len * sz')) hs hb h1 (hrn.take _) (Ones.take hsrc.ones _) (Nat.min_le_right _ _)
          (by rw [List.length_take, hsrc.size]; omega) hk.2 (by rw [List.length_take, hnl]; omega)
        refine Does.value (v := .int .i64 (Nat.min m len : Nat)) (w' := w') ?_ ⟨G', by simp only [RV, RD], hs', hT⟩
        have hlen := hsrc.len w
        have hcl := hsrc.cells w rfl (Nat.min m len) hle
        simp [execOp, ho, resolve, invoke, builtin, Builtin.copy_, run_underlying hu, hp, hlen, okSize_ok hsz, hcl, hst, goInt]
      · cases eq
    · cases eq
  · simp only [Eff.run] at eq; cases eq

theorem op_clear {t : TypeId} {sz : Nat} {zero : List V} {x : Operand} {xs : List V} (ho : o.op = .call { callee := .builtin .clear, args := #[x], argTypes := #[t] }) (hk : okElems P t sz zero = true) (hpos : 0 < sz)
    (hx : RVs w G H xs [ρ x]) (hs : HS G H w) : Good P o ρ w G H (act pc base (.clear sz zero) xs) := by
  obtain ⟨vx, rfl, h1⟩ := RVs1 hx
  obtain ⟨e, z, hu, hz, hzero, hc, hzs, hone⟩ := okElems_ok hk
  have hunit : ∀ {w' : World} {G' : Gh} {H' : List Blk}, RV w' G' H' undefV (.tuple #[]) := by
    intro w' G' H'; simp only [undefV, RV, RVs]; exact ⟨[], rfl, rfl⟩
  simp only [act, a1, aClear]
  split
  · have hp : ρ x = .slice none 0 0 := by simpa only [RV] using h1
    exact Good.retv hs (v := .tuple #[]) (by simp [execOp, ho, resolve, invoke, builtin, Builtin.clear_, run_underlying hu, hp]) hunit
  · have hp : ∃ A, ρ x = .slice A 0 0 := by simpa only [RV] using h1
    obtain ⟨A, hp⟩ := hp
    exact Good.retv hs (v := .tuple #[]) (by cases A <;> simp [execOp, ho, resolve, invoke, builtin, Builtin.clear_, run_underlying hu, hp]) hunit
  · rename_i q ver sz' off len
    intro r H' eq
    simp only [Eff.run, Option.map_eq_some_iff] at eq
    obtain ⟨⟨blk, v⟩, eq, e1⟩ := eq
    simp only [Prod.mk.injEq] at e1
    obtain ⟨rfl, rfl⟩ := e1
    split at eq
    · rename_i ver' cells hb
      split at eq
      · rename_i hq
        obtain ⟨rfl, rfl, hfit, hzl⟩ := hq
        simp only [Option.some.injEq, Prod.mk.injEq] at eq
        obtain ⟨rfl, rfl⟩ := eq
        have hr : RVs w G H zero z.cells.toList := chkVs_ok hc
        have hcells : (Builtin.zeroCells z.cells len).toList = (List.replicate len z.cells.toList).flatten := zeros_eq z.cells len
        have hfl : (List.replicate len z.cells.toList).flatten.length = len * sz' := by simp [hzs]
        obtain ⟨a, cap, w', G', hp, hst, hs', hT⟩ := put_cells (P := P) (n := len) (c := (List.replicate len zero).flatten) (vs := (List.replicate len z.cells.toList).flatten) hs hb h1 (RVs_flat hr len) (Ones_flat hone len) (Nat.le_refl _) hfl hpos
          (by simp [hzl]; omega)
        by_cases h0 : len = 0
        · subst h0
          simp only [List.replicate_zero, List.flatten_nil] at hst
          have : w' = w := by simp [storeCells] at hst; exact hst.symm
          subst this
          exact Does.value (v := .tuple #[]) (by simp [execOp, ho, resolve, invoke, builtin, Builtin.clear_, run_underlying hu, hp]) ⟨G', hunit, hs', hT⟩
        · refine Does.value (v := .tuple #[]) (w' := w') ?_ ⟨G', hunit, hs', hT⟩
          obtain ⟨n, rfl⟩ := Nat.exists_eq_succ_of_ne_zero h0
          rw [← hcells] at hst
          simp [execOp, ho, resolve, invoke, builtin, Builtin.clear_, run_underlying hu, hp, hzero, hst]
      · cases eq
    · cases eq
  · exact Good.none

/-! ### '==' of structs of scalars -/
def isStr (P : Program) (t : TypeId) : Bool := match P.underlying t with | some (.struct _) => true | _ => false
def okFlds (ok : TypeId → List Nat → Bool) (P : Program) : Nat → List Nat → List Field → Bool
  | _, ks, [] => ks.isEmpty
  | off, ks, f :: fs => f.name != "_" && f.offset == off && (match P.info? f.type with
    | some i => okVar P f.type (isStr P f.type) i.size && decide (i.size ≤ ks.length ∧ 0 < i.size) && ok f.type (ks.take i.size) && okFlds ok P (off + i.size) (ks.drop i.size) fs
    | none => false)
def okFlat (P : Program) : Nat → TypeId → List Nat → Bool
  | 0, _, _ => false
  | d + 1, t, ks => match P.underlying t with
    | some (.int _) => ks == [0]
    | some .bool => ks == [1]
    | some .string => ks == [2]
    | some (.struct fs) => !P.stoodInHeld t && okFlds (okFlat P d) P 0 ks fs.toList
    | _ => false

def cellsMk (agg : Bool) (vs : List Value) : Value := if agg then .agg vs.toArray else vs.getD 0 undef

theorem eqCells_len : ∀ {ks : List Nat} {a b : List V} {r : Bool}, eqCells ks a b = some r → a.length = ks.length ∧ b.length = ks.length
  | [], [], [], _, _ => ⟨rfl, rfl⟩
  | k :: ks, .d x :: l, .d y :: r, c, h => by
    simp only [eqCells] at h
    split at h
    · simp only [Option.bind_eq_some_iff] at h
      obtain ⟨b, _, h⟩ := h
      cases b
      · simp only [Bool.false_eq_true, if_false] at h
        split at h
        · rename_i hl; simp [hl.1, hl.2]
        · cases h
      · simp only [if_true] at h
        have := eqCells_len h
        simp [this.1, this.2]
    · cases h

theorem eqCells_cut : ∀ {ks1 ks2 : List Nat} {a b : List V} {r : Bool}, eqCells (ks1 ++ ks2) a b = some r →
    (eqCells ks1 (a.take ks1.length) (b.take ks1.length) = some true ∧ eqCells ks2 (a.drop ks1.length) (b.drop ks1.length) = some r) ∨
    (eqCells ks1 (a.take ks1.length) (b.take ks1.length) = some false ∧ r = false)
  | [], ks2, a, b, r, h => .inl ⟨by simp [eqCells], by simpa using h⟩
  | k :: ks1, ks2, a, b, r, h => by
    rw [List.cons_append] at h
    cases a with
    | nil => have := (eqCells_len h).1; simp at this
    | cons x l =>
      cases b with
      | nil => have := (eqCells_len h).2; simp at this
      | cons y m =>
        cases x <;> first | (simp only [eqCells] at h; cases h; done) | skip
        rename_i x
        cases y <;> first | (simp only [eqCells] at h; cases h; done) | skip
        rename_i y
        have hlen := eqCells_len h
        simp only [eqCells] at h
        simp only [List.length_cons, List.take_succ_cons, List.drop_succ_cons, eqCells]
        split at h
        · rename_i hk
          simp only [hk, if_true]
          simp only [Option.bind_eq_some_iff] at h
          obtain ⟨c, hc, h⟩ := h
          simp only [hc, Option.bind_some]
          cases c
          · simp only [Bool.false_eq_true, if_false] at h ⊢
            split at h
            · rename_i hl
              cases h
              refine .inr ⟨?_, rfl⟩
              simp only [List.length_append] at hl
              simp only [List.length_take]
              rw [if_pos ⟨by omega, by omega⟩]
            · cases h
          · simp only [if_true] at h ⊢
            exact eqCells_cut h
        · cases h

theorem eqCells_one {k : Nat} {a b : List V} {r : Bool} (h : eqCells [k] a b = some r) : ∃ x y, a = [.d x] ∧ b = [.d y] ∧ kindD x = k ∧ eqD x y = some r := by
  have hl := eqCells_len h
  match a, b, h, hl with
  | [.d x], [.d y], h, _ =>
    simp only [eqCells] at h
    split at h
    · rename_i hk
      simp only [Option.bind_eq_some_iff] at h
      obtain ⟨c, hc, h⟩ := h
      refine ⟨x, y, rfl, rfl, hk, ?_⟩
      cases c
      · simp at h; rw [hc, ← h]
      · simp at h; rw [hc, ← h]
    · cases h
  | [.vec ..], _, h, _ => simp [eqCells] at h
  | [.arr ..], _, h, _ => simp [eqCells] at h
  | [.ptr ..], _, h, _ => simp [eqCells] at h
  | [.map ..], _, h, _ => simp [eqCells] at h
  | [.fn ..], _, h, _ => simp [eqCells] at h
  | [.agg ..], _, h, _ => simp [eqCells] at h
  | [.tup ..], _, h, _ => simp [eqCells] at h
  | [.nilS], _, h, _ => simp [eqCells] at h
  | [.e0], _, h, _ => simp [eqCells] at h
  | [.nn ..], _, h, _ => simp [eqCells] at h
  | [.ex ..], _, h, _ => simp [eqCells] at h
  | [.nilF], _, h, _ => simp [eqCells] at h
  | [.junk], _, h, _ => simp [eqCells] at h
  | [.d _], [.vec ..], h, _ => simp [eqCells] at h
  | [.d _], [.arr ..], h, _ => simp [eqCells] at h
  | [.d _], [.ptr ..], h, _ => simp [eqCells] at h
  | [.d _], [.map ..], h, _ => simp [eqCells] at h
  | [.d _], [.fn ..], h, _ => simp [eqCells] at h
  | [.d _], [.agg ..], h, _ => simp [eqCells] at h
  | [.d _], [.tup ..], h, _ => simp [eqCells] at h
  | [.d _], [.nilS], h, _ => simp [eqCells] at h
  | [.d _], [.e0], h, _ => simp [eqCells] at h
  | [.d _], [.nn ..], h, _ => simp [eqCells] at h
  | [.d _], [.ex ..], h, _ => simp [eqCells] at h
  | [.d _], [.nilF], h, _ => simp [eqCells] at h
  | [.d _], [.junk], h, _ => simp [eqCells] at h

theorem kind0 {x y : D} {r : Bool} (hk : kindD x = 0) (h : eqD x y = some r) : ∃ k a b, x = .int k a ∧ y = .int k b ∧ r = (a == b) := by
  cases x <;> simp [kindD] at hk
  cases y <;> simp [eqD] at h
  obtain ⟨rfl, h⟩ := h
  exact ⟨_, _, _, rfl, rfl, h.symm⟩
theorem kind1 {x y : D} {r : Bool} (hk : kindD x = 1) (h : eqD x y = some r) : ∃ a b, x = .bool a ∧ y = .bool b ∧ r = (a == b) := by
  cases x <;> simp [kindD] at hk
  cases y <;> simp [eqD] at h
  exact ⟨_, _, rfl, rfl, h.symm⟩
theorem kind2 {x y : D} {r : Bool} (hk : kindD x = 2) (h : eqD x y = some r) : ∃ a b, x = .str a ∧ y = .str b ∧ r = (a == b) := by
  cases x <;> simp [kindD] at hk
  cases y <;> simp [eqD] at h
  exact ⟨_, _, rfl, rfl, h.symm⟩

theorem flat_eq : ∀ (d k : Nat) (t : TypeId) (ks : List Nat), okFlat P d t ks = true → ∀ {a b : List V} {as bs : List Value} {r : Bool}, eqCells ks a b = some r → RVs w G H a as → RVs w G H b bs →
    (Op.equalIn (d + k) t (cellsMk (isStr P t) as) (cellsMk (isStr P t) bs)).run P w = .ok r w := by
  intro d
  induction d with
  | zero => intro k t ks h; simp [okFlat] at h
  | succ d ih =>
    intro k t ks h a b as bs r he ha hb
    rw [show d + 1 + k = d + k + 1 by omega]
    simp only [okFlat] at h
    split at h
    · rename_i ik hu
      have hks : ks = [0] := by simpa using h
      subst hks
      obtain ⟨x, y, rfl, rfl, hk, he⟩ := eqCells_one he
      obtain ⟨kk, p, q, rfl, rfl, rfl⟩ := kind0 hk he
      obtain ⟨va, _, rfl, h1, h2⟩ := RVs_cons.1 ha
      obtain ⟨vb, _, rfl, h3, h4⟩ := RVs_cons.1 hb
      rw [RVs_nil] at h2 h4
      subst h2 h4
      rw [RVint h1, RVint h3]
      have : isStr P t = false := by simp [isStr, hu]
      simp [this, cellsMk, Op.equalIn, run_underlying hu]
    · rename_i hu
      have hks : ks = [1] := by simpa using h
      subst hks
      obtain ⟨x, y, rfl, rfl, hk, he⟩ := eqCells_one he
      obtain ⟨p, q, rfl, rfl, rfl⟩ := kind1 hk he
      obtain ⟨va, _, rfl, h1, h2⟩ := RVs_cons.1 ha
      obtain ⟨vb, _, rfl, h3, h4⟩ := RVs_cons.1 hb
      rw [RVs_nil] at h2 h4
      subst h2 h4
      rw [RVbool h1, RVbool h3]
      have : isStr P t = false := by simp [isStr, hu]
      simp [this, cellsMk, Op.equalIn, run_underlying hu]
    · rename_i hu
      have hks : ks = [2] := by simpa using h
      subst hks
      obtain ⟨x, y, rfl, rfl, hk, he⟩ := eqCells_one he
      obtain ⟨p, q, rfl, rfl, rfl⟩ := kind2 hk he
      obtain ⟨va, _, rfl, h1, h2⟩ := RVs_cons.1 ha
      obtain ⟨vb, _, rfl, h3, h4⟩ := RVs_cons.1 hb
      rw [RVs_nil] at h2 h4
      subst h2 h4
      rw [RVstr h1, RVstr h3]
      have : isStr P t = false := by simp [isStr, hu]
      simp only [this, cellsMk, Bool.false_eq_true, if_false, List.getD_cons_zero]
      rw [run_equalIn_string w _ _ _ _ hu, bytes_beq]
    · rename_i fs hu
      simp only [Bool.and_eq_true, Bool.not_eq_true'] at h
      obtain ⟨hst, hf⟩ := h
      have hfo : P.fieldsOf t = fs := by simp [Program.fieldsOf, hu]
      have hs1 : isStr P t = true := by simp [isStr, hu]
      simp only [hs1, cellsMk, if_true]
      rw [run_equalIn_struct w (d + k) t _ _ (by rw [hfo]; exact hu) hst, hfo]
      have key : ∀ (fs : List Field) (off : Nat) (ks : List Nat), okFlds (okFlat P d) P off ks fs = true → ∀ {a b : List V} {r : Bool} {as0 bs0 : List Value}, eqCells ks a b = some r → RVs w G H a (as0.drop off) → RVs w G H b (bs0.drop off) →
          (Op.eqFields (d + k) as0.toArray bs0.toArray fs).run P w = .ok r w := by
        intro fs
        induction fs with
        | nil =>
          intro off ks hk a b r as0 bs0 he ha hb
          have hks : ks = [] := by simpa [okFlds] using hk
          subst hks
          have hl := eqCells_len he
          have h1 : a = [] := List.eq_nil_of_length_eq_zero hl.1
          have h2 : b = [] := List.eq_nil_of_length_eq_zero hl.2
          subst h1 h2
          simp only [eqCells, Option.some.injEq] at he
          subst he
          simp [Op.eqFields]
        | cons f fs ihf =>
          intro off ks hk a b r as0 bs0 he ha hb
          simp only [okFlds, Bool.and_eq_true, bne_iff_ne, beq_iff_eq] at hk
          obtain ⟨⟨hname, hoff⟩, hk⟩ := hk
          split at hk
          · rename_i i hi
            simp only [Bool.and_eq_true, decide_eq_true_eq] at hk
            obtain ⟨⟨⟨hv, hle, hne⟩, hok⟩, hrest⟩ := hk
            obtain ⟨hagg, hsize⟩ := okVar_ok hv
            have hlen := eqCells_len he
            rw [show ks = ks.take i.size ++ ks.drop i.size from (List.take_append_drop _ _).symm] at he
            have htk : (ks.take i.size).length = i.size := by simp; omega
            have hcut := eqCells_cut he
            rw [htk] at hcut
            have hla : (as0.drop off).length = a.length := ha.length
            have hlb : (bs0.drop off).length = b.length := hb.length
            have hpart : ∀ (l : List V) (us : List Value), RVs w G H l (us.drop off) → l.length = ks.length → (part f.type us.toArray f.offset).run P w = .ok (cellsMk (isStr P f.type) ((us.drop off).take i.size)) w := by
              intro l us hl hln
              have hul : (us.drop off).length = ks.length := by rw [hl.length, hln]
              subst hoff
              cases hst : isStr P f.type
              · rw [hst] at hagg hv
                have hn1 : ∃ v, us[f.offset]? = some v := by
                  have : f.offset < us.length := by simp at hul; omega
                  exact ⟨_, List.getElem?_eq_getElem this⟩
                obtain ⟨v, hv'⟩ := hn1
                have h1 : ((us.drop f.offset).take i.size)[0]?.getD undef = v := by
                  rw [List.getElem?_take, if_pos hne, List.getElem?_drop, Nat.add_zero, hv']; rfl
                simp [part, hagg, hsize, hv', cellsMk]
                exact h1.symm
              · rw [hst] at hagg hv
                simp [part, hagg, hsize, cellsMk, List.extract_eq_take_drop]
            simp only [Op.eqFields, bne_iff_ne, ne_eq, hname, not_false_eq_true, if_true, Sem.run_bind, hpart a as0 ha hlen.1, hpart b bs0 hb hlen.2, Result.andThen_ok]
            rcases hcut with ⟨h1, h2⟩ | ⟨h1, h2⟩
            · rw [ih k f.type _ hok h1 (ha.take _) (hb.take _)]
              simp only [Result.andThen_ok, Bool.not_true, Bool.false_eq_true, if_false]
              exact ihf (off + i.size) _ hrest h2 (by rw [← List.drop_drop]; exact ha.drop _) (by rw [← List.drop_drop]; exact hb.drop _)
            · rw [ih k f.type _ hok h1 (ha.take _) (hb.take _)]
              subst h2
              simp
          · cases hk
      exact key fs.toList 0 ks hf (as0 := as) (bs0 := bs) he ha hb
    · cases h

theorem op_beq {op : BinOp} {t t' : TypeId} {ks : List Nat} {x y : Operand} {xs : List V} (ho : o.op = .binOp op t x y t') (hop : op = .eql ∨ op = .neq) (hk : okFlat P 9 t ks = true) (hst : isStr P t = true) (hg : P.eqGuardType P.depth t = false)
    (hx : RVs w G H xs [ρ x, ρ y]) (hs : HS G H w) {neg : Bool} (hneg : neg = match op with | .neq => true | _ => false) : Good P o ρ w G H (act pc base (.beq neg ks) xs) := by
  obtain ⟨vx, vy, rfl, h1, h2⟩ := RVs2 hx
  simp only [act, a2, aBeq]
  refine Good.opt hs fun r e => ?_
  split at e
  · rename_i a b
    simp only [Option.map_eq_some_iff] at e
    obtain ⟨c, e, rfl⟩ := e
    simp only [RV] at h1 h2
    obtain ⟨as, hp, ha, _⟩ := h1
    obtain ⟨bs, hq, hb, _⟩ := h2
    have he := flat_eq (P := P) 9 9991 t ks hk e ha hb
    simp only [hst, cellsMk, if_true] at he
    refine ⟨.bool (if neg then !c else c), ?_, by simp only [RV, RD]⟩
    rcases hop with rfl | rfl
    · simp only [execOp, ho, hp, hq, Sem.run_bind, run_eqGuard_agg w _ t x y _ _ hg, Result.andThen_ok, run_eql_struct, he, hneg]; simp
    · simp only [execOp, ho, hp, hq, Sem.run_bind, run_eqGuard_agg w _ t x y _ _ hg, Result.andThen_ok, run_neq_struct, he, hneg]; simp
  · cases e

/-! ### Maps -/
theorem cell_of_map {g : Nat} {ms : Array MapEntry} {clock : Nat} (h : w.heap[g]? = some (.map ms clock)) (p : Nat) : w.cell? ⟨g, p, none⟩ = none := by
  simp [World.cell?, h]
theorem holds_of_map {g : Nat} {ms : Array MapEntry} {clock : Nat} (h : w.heap[g]? = some (.map ms clock)) {cs : Array Value} (k : Holds w g cs) : False := by
  obtain ⟨ty, k⟩ := k; rw [h] at k; cases k

/-- A map that is written: the world's other blocks stay. -/
theorem write_map (hs : HS G H w) {q : Nat} {es es' : List (D × V)} (hb : getB H q = .map es) {ms : Array MapEntry} {clock clock' : Nat} (hm : w.heap[G.σ q]? = some (.map ms clock)) {ms' : Array MapEntry}
    (he : EntriesR w G H es' ms'.toList) :
    HS G (setB H q (.map es')) { w with heap := w.heap.setIfInBounds (G.σ q) (.map ms' clock') } ∧ T w G H { w with heap := w.heap.setIfInBounds (G.σ q) (.map ms' clock') } G (setB H q (.map es')) := by
  obtain ⟨h1, h2⟩ := Go.MapKept.heap_set (o' := .map ms' clock') hm
  have hact : (getB H q).act := by rw [hb]; trivial
  have hkeep : Keep w G.W { w with heap := w.heap.setIfInBounds (G.σ q) (.map ms' clock') } G.W := ⟨fun g p v hv hi => by
    have hne : g ≠ G.σ q := fun e => by subst e; rw [cell_of_map hm] at hv; cases hv
    exact ⟨by rw [World.cell?_of_block (w := w) (h2 g hne)]; exact hv, hi⟩⟩
  have hx : Ext w G H { w with heap := w.heap.setIfInBounds (G.σ q) (.map ms' clock') } G (setB H q (.map es')) := by
    refine ⟨hkeep, fun c hc => ?_, fun c ver' cells' hc e => ?_, fun c sz n' hc e => ?_, fun c es0 hc e => ?_⟩
    · rw [getB_setB]; split
      · simp
      · exact hc
    · rw [getB_setB] at e
      split at e
      · cases e
      · refine ⟨ver', cells', e, Nat.le_refl _, fun _ => ⟨rfl, fun cs hcs => ⟨cs, hcs.of_heap (h2 _ fun e => ?_), rfl⟩⟩⟩
        rw [e] at hcs; exact holds_of_map hm hcs
    · rw [getB_setB] at e
      split at e
      · cases e
      · refine ⟨n', e, Nat.le_refl _, fun _ => ⟨rfl, fun cs hcs => ⟨cs, hcs.of_heap (h2 _ fun e => ?_), rfl⟩⟩⟩
        rw [e] at hcs; exact holds_of_map hm hcs
    · rw [getB_setB] at e
      split at e
      · rename_i h; subst h; exact ⟨es, hb, rfl⟩
      · exact ⟨es0, e, rfl⟩
  have hW : G.W (G.σ q) = some 0 := by
    have := hs.blk q
    rw [hb] at this
    exact this.1
  refine ⟨hs.turn hx ⟨hW, ms', clock', h1, EntriesR.ext hx _ _ he⟩ (fun _ _ => rfl) (fun c hc ha => ⟨h2 _ fun e => hc (hs.inj c q ha hact e), rfl⟩) (fun c hc ha _ e => hc (hs.inj q c hact ha e).symm), ⟨hx, rfl, rfl, rfl, by simp, fun c hc => ?_, fun g hg hn => ⟨h2 g fun e => hn q hact e.symm, rfl⟩⟩⟩
  rw [getB_setB] at hc
  split at hc
  · rename_i h; subst h; exact .inl ⟨hact, rfl⟩
  · exact .inl ⟨hc, rfl⟩

theorem run_checkKey_int {kt : TypeId} {kk : IntKind} (hd : P.underlying kt = some (.int kk)) (k : Value) (e : Bool) (n : Nat) (w : World) : (Instr.checkKey e (n + 1) kt k).run P w = .ok () w := by
  unfold Instr.checkKey
  simp only [Sem.run_bind, run_underlying hd, Result.andThen]
  rfl

theorem eqI_ok {x y : D} {r : Bool} (h : eqI x y = some r) : ∃ k a b, x = .int k a ∧ y = .int k b ∧ r = (a == b) := by
  unfold eqI at h
  split at h
  · split at h
    · rename_i hk; subst hk; cases h; exact ⟨_, _, _, rfl, rfl, rfl⟩
    · cases h
  · cases h

theorem mget_ok {kk : IntKind} {k : D} {key : Value} (hk : RD w G.W k key) : ∀ {es : List (D × V)} {l : List MapEntry} {r : Option V}, mget k es = some r → EntriesR w G H es l → ∀ i,
    (r = none ∧ Instr.findNow (.int kk) key l i = some none) ∨ ∃ (v : V) (j : Nat) (u : Value), r = some v ∧ Instr.findNow (.int kk) key l i = some (some (j, u)) ∧ RV w G H v u
  | [], l, r, h, he, i => by
    cases he
    cases h
    exact .inl ⟨rfl, rfl⟩
  | e :: es, l, r, h, he, i => by
    obtain ⟨m, ms, rfl, h1, h2, h3⟩ := he
    simp only [mget, Option.bind_eq_some_iff] at h
    obtain ⟨c, hc, h⟩ := h
    obtain ⟨kd, a, b, rfl, e2, rfl⟩ := eqI_ok hc
    rw [e2] at h1
    simp only [RD] at hk h1
    have hs : Instr.sameNow (.int kk) key m.key = some (a == b) := by rw [hk, h1]; simp [Instr.sameNow]
    cases hab : (a == b)
    · rw [hab] at h hs
      simp only [Bool.false_eq_true, if_false] at h
      have := mget_ok (kk := kk) (by simp only [RD]; exact hk) h h3 (i + 1)
      simp only [Instr.findNow, hs]
      exact this
    · rw [hab] at h hs
      simp only [if_true, Option.some.injEq] at h
      subst h
      exact .inr ⟨e.2, i, m.val, rfl, by simp [Instr.findNow, hs], h2⟩

theorem mput_ok {kk : IntKind} {k : D} {key : Value} (hk : RD w G.W k key) {v : V} {val : Value} (hv : RV w G H v val) (clock : Nat) : ∀ {es es' : List (D × V)} {l : List MapEntry}, mput k v es = some es' → EntriesR w G H es l → ∀ i,
    (Instr.findNow (.int kk) key l i = some none ∧ EntriesR w G H es' (l ++ [{ key, val, born := clock }])) ∨
    ∃ (j : Nat) (u : MapEntry), Instr.findNow (.int kk) key l i = some (some (i + j, u.val)) ∧ l[j]? = some u ∧ u.key = key ∧ (∀ n, Instr.sameBits n key key = true) ∧ EntriesR w G H es' (l.modify j fun e => { e with key, val })
  | [], es', l, h, he, i => by
    cases he
    simp only [mput, Option.some.injEq] at h
    subst h
    exact .inl ⟨rfl, _, [], rfl, hk, hv, rfl⟩
  | e :: es, es', l, h, he, i => by
    obtain ⟨m, ms, rfl, h1, h2, h3⟩ := he
    simp only [mput, Option.bind_eq_some_iff] at h
    obtain ⟨c, hc, h⟩ := h
    obtain ⟨kd, a, b, rfl, e2, rfl⟩ := eqI_ok hc
    have h1' := h1
    have hk' := hk
    rw [e2] at h1'
    simp only [RD] at hk' h1'
    have hs : Instr.sameNow (.int kk) key m.key = some (a == b) := by rw [hk', h1']; simp [Instr.sameNow]
    cases hab : (a == b)
    · rw [hab] at h hs
      simp only [Bool.false_eq_true, if_false, Option.map_eq_some_iff] at h
      obtain ⟨es2, h, rfl⟩ := h
      simp only [Instr.findNow, hs]
      rcases mput_ok (kk := kk) hk hv clock h h3 (i + 1) with ⟨g1, g2⟩ | ⟨j, u, g1, g2, g3, g4, g5⟩
      · exact .inl ⟨g1, m, _, rfl, h1, h2, g2⟩
      · exact .inr ⟨j + 1, u, by rw [g1]; congr 3; omega, by simpa using g2, g3, g4, m, _, rfl, h1, h2, g5⟩
    · rw [hab] at h hs
      simp only [if_true, Option.some.injEq] at h
      subst h
      refine .inr ⟨0, m, by simp [Instr.findNow, hs], rfl, ?_, fun n => ?_, _, _, rfl, hk, hv, h3⟩
      · rw [hk', h1']; have := eq_of_beq hab; rw [this]
      · rw [hk']; cases n <;> simp [Instr.sameBits]

def okMap (P : Program) (t : TypeId) : Bool :=
  match P.underlying t with
  | some (.map k _) => (match P.underlying k with | some (.int _) => true | _ => false)
  | _ => false
theorem okMap_ok {t : TypeId} (h : okMap P t = true) : ∃ k e kk, P.underlying t = some (.map k e) ∧ P.underlying k = some (.int kk) := by
  unfold okMap at h
  split at h
  · split at h
    · exact ⟨_, _, _, by assumption, by assumption⟩
    · cases h
  · cases h

theorem op_mkMap {t : TypeId} {b : Nat} {xs : List V} (ho : o.op = .makeMap t none) (hx : RVs w G H xs []) (hs : HS G H w) : Good P o ρ w G H (act pc base (.mkMap b) xs) := by
  rw [RVs0 hx]
  simp only [act, a0, aMkMap]
  intro r H' eq
  obtain ⟨hd, rfl, rfl⟩ := fresh_put eq
  have hT := T.alloc hs.lt hd (.map #[] 0) (.map []) (some 0)
  refine Does.value (v := .map (some w.heap.size)) (w' := w.alloc (.map #[] 0)) (by simp [execOp, ho, Instr.makeMap]) ⟨_, ?_, hs.alloc hd _ _ _ ⟨?_, #[], 0, ?_, rfl⟩, hT⟩
  · simp only [RV]
    refine ⟨⟨_, rfl⟩, by rw [getB_setB, if_pos rfl]; simp, fun es he => by rw [upd_same]⟩
  · show upd G.W _ _ (upd G.σ (base + b) w.heap.size (base + b)) = _
    rw [upd_same, upd_same]
  · show (w.alloc _).heap[upd G.σ (base + b) w.heap.size (base + b)]? = _
    rw [upd_same]; exact heap_alloc_new w _

theorem op_mapPut {t : TypeId} {x y z : Operand} {xs : List V} (ho : o.op = .mapUpdate t x y z ∨ o.op = .insert t x y z) (hk : okMap P t = true) (hx : RVs w G H xs [ρ x, ρ y, ρ z]) (hs : HS G H w) : Good P o ρ w G H (act pc base .mapPut xs) := by
  obtain ⟨vx, vy, vz, rfl, h1, h2, h3⟩ := RVs3 hx
  obtain ⟨kt, et, kk, hu, huk⟩ := okMap_ok hk
  simp only [act, a3, aMapPut]
  split
  · rename_i q k
    intro r H' eq
    simp only [Eff.run, Option.map_eq_some_iff] at eq
    obtain ⟨⟨blk, v⟩, eq, e1⟩ := eq
    simp only [Prod.mk.injEq] at e1
    obtain ⟨rfl, rfl⟩ := e1
    split at eq
    · rename_i es hb
      simp only [Option.map_eq_some_iff, Prod.mk.injEq] at eq
      obtain ⟨es', eq, rfl, rfl⟩ := eq
      have hbr := hs.blk q
      rw [hb] at hbr
      obtain ⟨hW, ms, clock, hm, he⟩ := hbr
      simp only [RV] at h1 h2
      have hp := h1.2.2 es hb
      have hck := run_checkKey_int (P := P) huk (ρ y) false 9999 w
      have hex : ∀ w', (Instr.mapUpdate t (ρ x) (ρ y) (ρ z)).run P w = .ok () w' → (execOp ρ o).run P w = .ok .skip w' := fun w' h => by
        rcases ho with ho | ho <;> simp [execOp, ho, h]
      rcases mput_ok (kk := kk) h2 h3 clock eq he 0 with ⟨g1, g2⟩ | ⟨j, u, g1, g2, g3, g4, g5⟩
      · obtain ⟨hs', hT⟩ := write_map hs hb hm (clock' := clock + 1) (ms' := ms.push { key := ρ y, val := ρ z, born := clock }) (by simpa using g2)
        refine Does.skip (w' := _) (hex _ ?_) ⟨_, by simp only [RV, undefV, RVs]; exact ⟨[], rfl, rfl⟩, hs', hT⟩
        have hf : (Instr.findKey kt (ρ y) ms.toList).run P w = .ok none w := Go.MapKept.run_findKey huk g1
        simp only [Instr.mapUpdate, Sem.run_bind, run_underlying hu, Result.andThen_ok, hp, Go.MapKept.run_getObj_map hm, hck, hf, Go.MapKept.run_setObj_map _ hm]
      · obtain ⟨hs', hT⟩ := write_map hs hb hm (clock' := clock) (ms' := ms.modify j fun e => { e with key := ρ y, val := ρ z }) (by rw [Array.toList_modify]; exact g5)
        refine Does.skip (w' := _) (hex _ ?_) ⟨_, by simp only [RV, undefV, RVs]; exact ⟨[], rfl, rfl⟩, hs', hT⟩
        have hf : (Instr.findKey kt (ρ y) ms.toList).run P w = .ok (some (j, u.val)) w := by
          rw [Go.MapKept.run_findKey huk g1, Nat.zero_add]
        have hg : ((ms[j]?).map (·.key)).getD (ρ y) = ρ y := by
          have : ms[j]? = some u := by simpa using g2
          simp [this, g3]
        simp only [Instr.mapUpdate, Sem.run_bind, run_underlying hu, Result.andThen_ok, hp, Go.MapKept.run_getObj_map hm, hck, hf, hg, Instr.keyThatStays, g4, if_true, Sem.run_pure, Go.MapKept.run_setObj_map _ hm]
    · cases eq
  · exact Good.none

/-- The zero of a map's element. -/
def okMapZ (P : Program) (t : TypeId) (zero : V) : Bool :=
  match P.underlying t with
  | some (.map _ e) => (match P.info? e with
    | some i => (match i.zero with | some z => chkV zero z | none => false)
    | none => false)
  | _ => false
theorem okMapZ_ok {t kt et : TypeId} {zero : V} (h : okMapZ P t zero = true) (hu : P.underlying t = some (.map kt et)) : ∃ z, (∀ w, (zeroValue et).run P w = .ok z w) ∧ chkV zero z = true := by
  unfold okMapZ at h
  rw [hu] at h
  simp only at h
  split at h
  · rename_i i hi
    split at h
    · rename_i z hz
      exact ⟨z, fun w => by simp [zeroValue, typeInfo, hi, hz], h⟩
    · cases h
  · cases h

theorem op_mapGet {t : TypeId} {zero : V} {ok : Bool} {x y : Operand} {xs : List V} (ho : o.op = .lookup t x y ok) (hk : okMap P t = true) (hz : okMapZ P t zero = true) (hx : RVs w G H xs [ρ x, ρ y]) (hs : HS G H w) : Good P o ρ w G H (act pc base (.mapGet zero ok) xs) := by
  obtain ⟨vx, vy, rfl, h1, h2⟩ := RVs2 hx
  obtain ⟨kt, et, kk, hu, huk⟩ := okMap_ok hk
  obtain ⟨z, hz1, hz2⟩ := okMapZ_ok hz hu
  simp only [act, a2, aMapGet]
  split
  · rename_i q k
    intro r H' eq
    simp only [Eff.run] at eq
    split at eq
    · rename_i es hb
      simp only [Eff.run, Option.map_eq_some_iff, Prod.mk.injEq] at eq
      obtain ⟨v, ⟨s, eq, rfl⟩, rfl, rfl⟩ := eq
      have hbr := hs.blk q
      rw [hb] at hbr
      obtain ⟨hW, ms, clock, hm, he⟩ := hbr
      have hs2 := h2
      simp only [RV] at h1 h2
      have hp := h1.2.2 es hb
      have hck := run_checkKey_int (P := P) huk (ρ y) ms.isEmpty 9999 w
      have key : ∀ u b v', s.isSome = b → RV w G H v' u → v' = s.getD zero → (Instr.lookup t (ρ x) (ρ y) ok).run P w = .ok (if ok then .tuple #[u, .bool b] else u) w → Does P (execOp ρ o) w (Post w G H H (if ok = true then V.tup [s.getD zero, V.d (D.bool s.isSome)] else s.getD zero)) := fun u b v' hb' hr hv' h => by
        refine Does.value (v := if ok then .tuple #[u, .bool b] else u) (w' := w) (by simp [execOp, ho, h]) (Post.ret ?_ hs)
        subst hv' hb'
        cases ok
        · simpa using hr
        · simp only [if_true, RV]
          exact ⟨[u, .bool s.isSome], rfl, RVs_cons.2 ⟨_, _, rfl, hr, RVs_cons.2 ⟨_, _, rfl, by simp only [RV, RD], RVs_nil.2 rfl⟩⟩⟩
      rcases mget_ok (kk := kk) h2 eq he 0 with ⟨rfl, g1⟩ | ⟨v, j, u, rfl, g1, g2⟩
      · have hf : (Instr.findKey kt (ρ y) ms.toList).run P w = .ok none w := Go.MapKept.run_findKey huk g1
        refine key z false zero rfl (chkV_ok hz2) rfl ?_
        simp only [Instr.lookup, Sem.run_bind, run_underlying hu, Result.andThen_ok, hp, Go.MapKept.run_getObj_map hm, Sem.run_pure, hck, hf, hz1]
      · have hf : (Instr.findKey kt (ρ y) ms.toList).run P w = .ok (some (j, u)) w := Go.MapKept.run_findKey huk g1
        refine key u true v rfl g2 rfl ?_
        simp only [Instr.lookup, Sem.run_bind, run_underlying hu, Result.andThen_ok, hp, Go.MapKept.run_getObj_map hm, Sem.run_pure, hck, hf]
    · simp only [Eff.run] at eq; cases eq
  · exact Good.none
end
end Go.Vm
