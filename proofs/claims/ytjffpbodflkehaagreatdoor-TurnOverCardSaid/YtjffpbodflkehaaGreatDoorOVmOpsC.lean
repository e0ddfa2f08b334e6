/- Operations of the machine: stores, fields, elements, lengths, cuts. -/
import Derived.Test.YtjffpbodflkehaaGreatDoorOVmOpsB
import Derived.Laws.BytesString
set_option linter.unusedVariables false
set_option linter.unusedSimpArgs false
namespace Go.Vm
open Go.RowKit

section
variable {P : Program} {o : Oper} {ρ : Operand → Value} {w : World} {G : Gh} {H : List Blk} {pc : Nat → List D → Option D} {base : Nat}

/-! ### A block that is written -/
theorem splice_len {l : List V} {off : Nat} {c : List V} (h : off + c.length ≤ l.length) : (splice l off c).length = l.length := by
  simp [splice]; omega
theorem splice_get {l c : List V} {off : Nat} (h : off + c.length ≤ l.length) (i : Nat) : (splice l off c)[i]? = if off ≤ i ∧ i < off + c.length then c[i - off]? else l[i]? := by
  unfold splice
  rw [List.append_assoc, List.getElem?_append]
  simp only [List.length_take, List.getElem?_take]
  by_cases h1 : i < min off l.length
  · have : i < off := by omega
    rw [if_pos h1, if_pos this, if_neg (by omega)]
  · rw [if_neg h1, List.getElem?_append]
    have e : min off l.length = off := by omega
    rw [e]
    by_cases h2 : i - off < c.length
    · rw [if_pos h2, if_pos (by omega)]
    · rw [if_neg h2, if_neg (by omega), List.getElem?_drop]
      congr 1; omega

/-- The same for values. -/
def spliceA (cs : Array Value) (off : Nat) (new : List Value) : Array Value := (cs.toList.take off ++ new ++ cs.toList.drop (off + new.length)).toArray
theorem spliceA_size {cs : Array Value} {off : Nat} {c : List Value} (h : off + c.length ≤ cs.size) : (spliceA cs off c).size = cs.size := by
  simp [spliceA]; omega
theorem spliceA_get {cs : Array Value} {c : List Value} {off : Nat} (h : off + c.length ≤ cs.size) (i : Nat) : (spliceA cs off c)[i]? = if off ≤ i ∧ i < off + c.length then c[i - off]? else cs[i]? := by
  unfold spliceA
  simp only [List.getElem?_toArray]
  rw [List.append_assoc, List.getElem?_append]
  simp only [List.length_take, List.getElem?_take, Array.length_toList]
  by_cases h1 : i < min off cs.size
  · have : i < off := by omega
    rw [if_pos h1, if_pos this, if_neg (by omega)]; simp
  · rw [if_neg h1, List.getElem?_append]
    have e : min off cs.size = off := by omega
    rw [e]
    by_cases h2 : i - off < c.length
    · rw [if_pos h2, if_pos (by omega)]
    · rw [if_neg h2, if_neg (by omega), List.getElem?_drop]
      simp only [Array.getElem?_toList]
      congr 1; omega

/-- Cells of a block are written in place. -/
theorem write_mem (hs : HS G H w) {b ver : Nat} {cells : List V} (hb : getB H b = .mem ver cells) {off : Nat} {c : List V} {vs : List Value} (hr : RVs w G H c vs) (hone : Ones vs) (hfit : off + c.length ≤ cells.length) :
    ∃ cs w', Holds w (G.σ b) cs ∧ w' = w.setRow (G.σ b) (spliceA cs off vs) ∧ off + vs.length ≤ cs.size ∧
      HS ⟨G.σ, upd G.W (G.σ b) (some 0)⟩ (setB H b (.mem ver (splice cells off c))) w' ∧ T w G H w' ⟨G.σ, upd G.W (G.σ b) (some 0)⟩ (setB H b (.mem ver (splice cells off c))) := by
  obtain ⟨cs, hh, hl, hW, hcs, hcone⟩ := BR.read hs hb
  have hlen := hr.length
  have hfit' : off + vs.length ≤ cs.size := by omega
  have hw := Wrote.setRow hh (spliceA cs off vs)
  have hact : (getB H b).act := by rw [hb]; trivial
  have hx : Ext w G H (w.setRow (G.σ b) (spliceA cs off vs)) ⟨G.σ, upd G.W (G.σ b) (some 0)⟩ (setB H b (.mem ver (splice cells off c))) :=
    Ext.wrote hw hh (spliceA_size hfit') hW (Nat.le_refl _) (fun i hi => absurd hi (Nat.not_lt_zero _)) (by simp)
      (fun ver' cells' e => by cases e; exact ⟨ver, cells, hb, Nat.le_refl _⟩) (fun _ _ e => by cases e) (fun _ e => by cases e)
  refine ⟨cs, _, hh, rfl, hfit', hs.wrote hw hact hx ?_, T.wrote hw hact hx⟩
  refine ⟨spliceA cs off vs, hw.here, by rw [spliceA_size hfit', splice_len hfit]; exact hl, upd_same _ _ _, fun i x hi => ?_⟩
  rw [splice_get hfit] at hi
  rw [spliceA_get hfit', hlen]
  split at hi
  · rename_i hc
    obtain ⟨v, hv, h⟩ := hr.get hi
    rw [if_pos hc]
    exact ⟨v, hv, hone.get hv, RV.ext hx x v h⟩
  · rename_i hc
    rw [if_neg hc]
    obtain ⟨v, hv, h⟩ := hcs.get hi
    refine ⟨v, ?_, hcone.get hv, RV.ext hx x v h⟩
    rw [List.getElem?_take] at hv
    split at hv
    · simpa using hv
    · cases hv

theorem storeCells_run {g off : Nat} {cs : Array Value} (h : Holds w g cs) {vs : List Value} (hfit : off + vs.length ≤ cs.size) (h1 : ∀ v, v ∈ vs → v.oneCell' = true) :
    (storeCells ⟨g, off, none⟩ vs).run P w = .ok () (w.setRow g (spliceA cs off vs)) := by
  obtain ⟨ty, h⟩ := h
  have := run_storeCells_at P g off ty vs 0 cs w h (by simpa using hfit) h1
  simpa [spliceA] using this

def okSize (P : Program) (t : TypeId) (n : Nat) : Bool := match P.info? t with | some i => i.size == n | none => false
theorem okSize_ok {t : TypeId} {n : Nat} (h : okSize P t n = true) (w : World) : (sizeOf t).run P w = .ok n w := by
  unfold okSize at h
  split at h
  · rename_i i hi
    simp only [beq_iff_eq] at h
    simp [sizeOf, typeInfo, hi, h]
  · cases h

theorem op_store {t : TypeId} {n : Nat} {x y : Operand} {xs : List V} (ho : o.op = .store t x y) (hv : okSize P t n = true) (hx : RVs w G H xs [ρ x, ρ y]) (hs : HS G H w) : Good P o ρ w G H (act pc base (.store n) xs) := by
  obtain ⟨vx, vy, rfl, h1, h2⟩ := RVs2 hx
  simp only [act, a2, aStore_eq, sStore]
  split
  · rename_i b ver off c hc
    intro r H' e
    simp only [Eff.run, Option.map_eq_some_iff, Prod.exists] at e
    obtain ⟨blk, v', e, e'⟩ := e
    injection e' with e1 e2
    subst e1 e2
    split at e
    · rename_i ver' cells hb
      split at e
      · rename_i hq
        obtain ⟨rfl, hcl, hfit⟩ := hq
        cases e
        simp only [RV] at h1
        have hp := (h1.2.2 _ _ hb).2 rfl
        obtain ⟨hr, h1c⟩ := cellsV_ok hc h2
        obtain ⟨cs, w', hh, hw', hf, hs', hT⟩ := write_mem hs hb (off := off) hr h1c (by omega)
        have hlen := hr.length
        refine Does.skip (w' := w') ?_ ⟨_, by simp only [RV, undefV, RVs]; exact ⟨[], rfl, rfl⟩, hs', hT⟩
        have hst := storeCells_run (P := P) hh hf h1c
        simp only [execOp, ho, hp, Instr.storeAt, Sem.run_bind, sureAddr_ok, Result.andThen_ok, storeVar, okSize_ok hv]
        have : ¬ ((ρ y).cells.size ≠ n) := by simp at hlen; omega
        simp only [this, if_false, hst, hw', Sem.run_bind, Result.andThen_ok]
        rfl
      · cases e
    · cases e
  · exact Good.none

theorem RDcells_drop {W : Nat → Option Nat} {g : Nat} : ∀ {cells : List D} {p : Nat} (n : Nat), RDcells w W g p cells → RDcells w W g (p + n) (cells.drop n)
  | [], p, n, _ => by simp only [List.drop_nil, RDcells]
  | c :: cs, p, 0, h => by simpa using h
  | c :: cs, p, n + 1, h => by
    simp only [RDcells] at h
    have := RDcells_drop n h.2
    rw [show p + 1 + n = p + (n + 1) by omega] at this
    simpa using this

/-! ### Fields -/
def okField (P : Program) (t : TypeId) (f off : Nat) : Bool :=
  match P.underlying t with
  | some (.struct fields) => match fields[f]? with
    | some fl => fl.offset == off && (match P.info? fl.type with | some i => i.size != 0 | none => false)
    | none => false
  | _ => false
theorem op_fld {t : TypeId} {f off : Nat} {x : Operand} {xs : List V} (ho : o.op = .fieldAddr t x f) (hf : okField P t f off = true) (hx : RVs w G H xs [ρ x]) (hs : HS G H w) : Good P o ρ w G H (act pc base (.fld off) xs) := by
  obtain ⟨vx, rfl, h1⟩ := RVs1 hx
  simp only [act, a1, aFld_eq]
  have hrun : ∀ a, ρ x = .pointer (some a) → (execOp ρ o).run P w = .ok (.value (.pointer (some (a.add off)))) w := fun a hp => by
    unfold okField at hf
    split at hf
    · rename_i fields hu
      split at hf
      · rename_i fl hfl
        simp only [Bool.and_eq_true, beq_iff_eq] at hf
        obtain ⟨rfl, hf⟩ := hf
        split at hf
        · rename_i i hi
          have hne : i.size ≠ 0 := by simpa using hf
          simp [execOp, ho, hp, Instr.fieldAt, run_underlying hu, hfl, sureAddr_ok, fieldPlace, sizeOf, typeInfo, hi, hne]
        · cases hf
      · cases hf
    · cases hf
  refine Good.opt hs fun r e => ?_
  split at e
  · rename_i b ver p
    cases e
    have h := h1
    simp only [RV] at h
    obtain ⟨⟨a, ha⟩, hd, hm⟩ := h
    refine ⟨_, hrun a ha, ?_⟩
    simp only [RV]
    refine ⟨⟨_, rfl⟩, hd, fun ver' cells' he => ?_⟩
    obtain ⟨hle, heq⟩ := hm ver' cells' he
    refine ⟨hle, fun hv => ?_⟩
    have := heq hv
    rw [ha] at this
    cases this
    rw [add_lit']
  · rename_i cells
    split at e
    · rename_i hlt
      cases e
      simp only [RV, RD] at h1
      obtain ⟨g, p, hp, hc⟩ := h1
      refine ⟨_, hrun _ hp, ?_⟩
      simp only [RV, RD]
      exact ⟨g, p + off, by rw [add_lit'], RDcells_drop off hc⟩
    · cases e
  · cases e

/-! ### Parts of values -/
def okPart (P : Program) (t : TypeId) (f off n : Nat) (agg : Bool) : Bool :=
  match P.underlying t with
  | some (.struct fields) => match fields[f]? with
    | some fl => fl.offset == off && okVar P fl.type agg n
    | none => false
  | _ => false
theorem op_fldv {t : TypeId} {f off n : Nat} {agg : Bool} {x : Operand} {xs : List V} (ho : o.op = .field t x f) (hf : okPart P t f off n agg = true) (hx : RVs w G H xs [ρ x]) (hs : HS G H w) : Good P o ρ w G H (act pc base (.fldv off n agg) xs) := by
  obtain ⟨vx, rfl, h1⟩ := RVs1 hx
  simp only [act, a1, aFldv_eq]
  refine Good.opt hs fun r e => ?_
  split at e
  · rename_i cs
    simp only [RV] at h1
    obtain ⟨vs, hp, hr, hone⟩ := h1
    have hlen := hr.length
    split at e
    · rename_i hfit
      unfold okPart at hf
      split at hf
      · rename_i fields hu
        split at hf
        · rename_i fl hfl
          simp only [Bool.and_eq_true, beq_iff_eq] at hf
          obtain ⟨rfl, hf⟩ := hf
          obtain ⟨ha, hz⟩ := okVar_ok hf
          split at e
          · rename_i hagg
            subst hagg
            cases e
            refine ⟨.agg ((vs.drop fl.offset).take n).toArray, ?_, ?_⟩
            · simp [execOp, ho, hp, Instr.field, run_underlying hu, hfl, asAgg, part, ha, hz, List.extract_eq_take_drop]
            · simp only [RV]; exact ⟨_, rfl, (hr.drop _).take _, Ones.take (Ones.drop hone _) _⟩
          · rename_i hagg
            split at e
            · rename_i hn
              subst hn
              obtain ⟨v, hv, h⟩ := hr.get e
              refine ⟨v, ?_, h⟩
              have hagg' : agg = false := by simpa using hagg
              subst hagg'
              simp [execOp, ho, hp, Instr.field, run_underlying hu, hfl, asAgg, part, ha, hz, hv]
            · cases e
        · cases hf
      · cases hf
    · cases e
  · cases e

/-! ### Elements -/
theorem asNat_ok {x : V} {n : Nat} {v : Value} (h : asNat x = some n) (hr : RV w G H x v) : ∃ k, v = .int k n := by
  unfold asNat at h
  split at h
  · rename_i k i
    split at h
    · cases h
      refine ⟨k, ?_⟩
      have := RVint hr
      rw [this]; congr 1; omega
    · cases h
  · cases h

theorem rowsOf_ok {x : V} {rows : List (List D)} {v : Value} (h : rowsOf x = some rows) (hr : RV w G H x v) : RD w G.W (.list rows) v := by
  unfold rowsOf at h
  split at h <;> cases h <;> simp only [RV] at hr
  · exact hr
  · exact hr.1
  · subst hr; simp only [RD]; exact ⟨none, 0, rfl, Nat.le_refl _, fun hn => absurd rfl hn⟩
  · obtain ⟨A, rfl⟩ := hr; simp only [RD]; exact ⟨A, 0, rfl, Nat.le_refl _, fun hn => absurd rfl hn⟩
  · exact hr.1
  · exact hr.1

theorem RDrows_get {W : Nat → Option Nat} {g sz : Nat} : ∀ {rows : List (List D)} {p : Nat}, RDrows w W g sz p rows → ∀ {i : Nat} {r : List D}, rows[i]? = some r → r.length = sz ∧ RDcells w W g (p + i * sz) r
  | [], _, _, _, _, h => by simp at h
  | r0 :: rows, p, h, i, r, hi => by
    simp only [RDrows] at h
    cases i with
    | zero => simp at hi; subst hi; simpa using ⟨h.1, h.2.1⟩
    | succ i =>
      obtain ⟨a, b⟩ := RDrows_get h.2.2 (i := i) (r := r) (by simpa using hi)
      refine ⟨a, ?_⟩
      rw [show p + (i + 1) * sz = p + sz + i * sz by rw [Nat.add_mul]; omega]
      exact b

def okElem (P : Program) (t : TypeId) (sz : Nat) : Bool :=
  match P.underlying t with
  | some (.slice e) => okSize P e sz
  | _ => false
theorem okElem_ok {t : TypeId} {sz : Nat} (h : okElem P t sz = true) : ∃ e, P.underlying t = some (.slice e) ∧ okSize P e sz = true := by
  unfold okElem at h
  split at h
  · exact ⟨_, by assumption, h⟩
  · cases h

theorem op_ix {t : TypeId} {sz : Nat} {x y : Operand} {xs : List V} (ho : o.op = .indexAddr t x y) (he : okElem P t sz = true) (hx : RVs w G H xs [ρ x, ρ y]) (hs : HS G H w) : Good P o ρ w G H (act pc base (.ix sz) xs) := by
  obtain ⟨vx, vy, rfl, h1, h2⟩ := RVs2 hx
  obtain ⟨el, hu, hz⟩ := okElem_ok he
  have hz := okSize_ok hz
  simp only [act, a2, aIx_eq]
  refine Good.opt hs fun r e => ?_
  simp only [Option.bind_eq_some_iff] at e
  obtain ⟨i, hi, e⟩ := e
  obtain ⟨k, hy⟩ := asNat_ok hi h2
  have hrun : ∀ a len cap, ρ x = .slice (some a) len cap → i < len → (execOp ρ o).run P w = .ok (.value (.pointer (some (a.add (i * sz))))) w := fun a len cap hp hlt => by
    simp [execOp, ho, hp, hy, Instr.indexAt, asIntOf, run_underlying hu, hz, hlt]
  split at e
  · rename_i b ver sz' off len
    split at e
    · rename_i hc
      obtain ⟨hlt, rfl⟩ := hc
      cases e
      simp only [RV] at h1
      obtain ⟨⟨a, c, hp, hc⟩, hd, hm⟩ := h1
      refine ⟨_, hrun a _ _ hp hlt, ?_⟩
      simp only [RV]
      refine ⟨⟨_, rfl⟩, hd, fun ver' cells' he => ?_⟩
      obtain ⟨hle, heq⟩ := hm ver' cells' he
      refine ⟨hle, fun hv => ?_⟩
      obtain ⟨a', cap, cs, hp', hl', ha', _⟩ := heq hv
      rw [hp] at hp'
      cases hp'
      rw [ha' (by omega), add_lit']
    · cases e
  · simp only [Option.bind_eq_some_iff] at e
    obtain ⟨rows, hrows, row, hrow, e⟩ := e
    split at e
    · rename_i hsz
      cases e
      have hd := rowsOf_ok hrows h1
      simp only [RD] at hd
      obtain ⟨A, cap, hp, hcap, hn⟩ := hd
      have hlt : i < rows.length := (List.getElem?_eq_some_iff.1 hrow).1
      obtain ⟨g, p, sz', hA, hR⟩ := hn (by intro h; subst h; simp at hlt)
      subst hA
      obtain ⟨hl, hc⟩ := RDrows_get hR hrow
      have hsz' : row.length = sz := hsz
      refine ⟨_, hrun _ _ _ hp hlt, ?_⟩
      simp only [RV, RD]
      refine ⟨g, p + i * sz, by rw [add_lit'], ?_⟩
      rw [← hsz', hl]; exact hc
    · cases e

theorem op_ixs {t : TypeId} {x y : Operand} {xs : List V} (ho : o.op = .index t x y) (he : P.underlying t = some .string) (hx : RVs w G H xs [ρ x, ρ y]) (hs : HS G H w) : Good P o ρ w G H (act pc base .ixs xs) := by
  obtain ⟨vx, vy, rfl, h1, h2⟩ := RVs2 hx
  simp only [act, a2, aIxs_eq]
  refine Good.opt hs fun r e => ?_
  simp only [Option.bind_eq_some_iff] at e
  obtain ⟨i, hi, e⟩ := e
  obtain ⟨k, hy⟩ := asNat_ok hi h2
  split at e
  · rename_i s
    have hp := RVstr h1
    simp only [Option.map_eq_some_iff] at e
    obtain ⟨b, hb, rfl⟩ := e
    refine ⟨.int .u8 b.toNat, ?_, by simp only [RV, RD]⟩
    have hg : (⟨s.toArray⟩ : ByteArray)[i]? = some b := by
      have hlt : i < s.length := (List.getElem?_eq_some_iff.1 hb).1
      have : i < (⟨s.toArray⟩ : ByteArray).size := hlt
      rw [getElem?_pos (⟨s.toArray⟩ : ByteArray) i this]
      have hb' := (List.getElem?_eq_some_iff.1 hb).2
      rw [← hb']
      rfl
    simp [execOp, ho, hp, hy, Instr.index, asIntOf, run_underlying he, hg]
  · cases e

/-- 'len' of a string (0), a slice (1), a map (2). -/
def okLen (P : Program) (kd : Nat) (t : TypeId) : Bool :=
  match kd, P.underlying t with
  | 0, some .string => true
  | 1, some (.slice _) => true
  | 2, some (.map _ _) => true
  | _, _ => false
theorem op_len {kd : Nat} {t : TypeId} {x : Operand} {xs : List V} (ho : o.op = .call { callee := .builtin .len, args := #[x], argTypes := #[t] }) (hk : okLen P kd t = true) (hx : RVs w G H xs [ρ x]) (hs : HS G H w) :
    Good P o ρ w G H (act pc base (.len kd) xs) := by
  obtain ⟨vx, rfl, h1⟩ := RVs1 hx
  have hrun : ∀ v, (Builtin.len_ #[t] o.type #[ρ x]).run P w = .ok v w → (execOp ρ o).run P w = .ok (.value v) w := fun v h => by
    simp [execOp, ho, resolve, invoke, builtin, h]
  unfold okLen at hk
  simp only [act, a1, aLen_eq]
  unfold lenV
  split at hk
  · rename_i hu
    refine Good.opt hs fun r e => ?_
    unfold lenStr at e
    split at e
    · rename_i s
      cases e
      have hp := RVstr h1
      refine ⟨_, hrun (.int .i64 s.length) ?_, by simp only [RV, RD]⟩
      simp only [Builtin.len_]
      simp [run_underlying hu, hp, goInt]
      rfl
    · cases e
  · rename_i el hu
    refine Good.opt hs fun r e => ?_
    have hrun' : ∀ A n c, ρ x = .slice A n c → (execOp ρ o).run P w = .ok (.value (.int .i64 n)) w := fun A n c hp => hrun _ (by
      simp only [Builtin.len_]
      simp [run_underlying hu, hp, goInt])
    unfold lenSl at e
    split at e
    · cases e
      simp only [RV] at h1
      obtain ⟨⟨a, c, hp, _⟩, _⟩ := h1
      exact ⟨_, hrun' _ _ _ hp, by simp only [RV, RD]⟩
    · simp only [Option.map_eq_some_iff] at e
      obtain ⟨rows, hr, rfl⟩ := e
      have hd := rowsOf_ok hr h1
      simp only [RD] at hd
      obtain ⟨A, cap, hp, _⟩ := hd
      exact ⟨_, hrun' _ _ _ hp, by simp only [RV, RD]⟩
  · rename_i k el hu
    show Good P o ρ w G H (lenMap vx)
    unfold lenMap
    split
    · rename_i b
      intro r H' e
      simp only [Eff.run] at e
      split at e
      · rename_i es hb
        simp only [Eff.run, Option.map_some, Option.some.injEq, Prod.mk.injEq] at e
        obtain ⟨rfl, rfl⟩ := e
        simp only [RV] at h1
        have hp := h1.2.2 _ hb
        have hbr := hs.blk b
        rw [hb] at hbr
        obtain ⟨_, ms, clock, hh, hes⟩ := hbr
        have hln : ms.size = es.length := by
          have : ∀ (es : List (D × V)) (ms : List MapEntry), EntriesR w G H es ms → ms.length = es.length := by
            intro es
            induction es with
            | nil => intro ms h; simp only [EntriesR] at h; subst h; rfl
            | cons e es ih =>
              intro ms h
              simp only [EntriesR] at h
              obtain ⟨m, ms', rfl, _, _, h⟩ := h
              simp [ih _ h]
          simpa using this es ms.toList hes
        refine Does.value (hrun (.int .i64 es.length) ?_) (Post.ret (by simp only [RV, RD]) hs)
        simp only [Builtin.len_]
        simp [run_underlying hu, hp, goInt, getObj, Sem.run, hh, hln]
      · simp only [Eff.run] at e; cases e
    · exact Good.none
  · cases hk

def okSlice (P : Program) (t : TypeId) : Bool := match P.underlying t with | some (.slice _) => true | _ => false
theorem okSlice_ok {t : TypeId} (h : okSlice P t = true) : ∃ e, P.underlying t = some (.slice e) := by
  unfold okSlice at h
  split at h
  · exact ⟨_, by assumption⟩
  · cases h

theorem op_cap {t : TypeId} {x : Operand} {xs : List V} (ho : o.op = .call { callee := .builtin .cap, args := #[x], argTypes := #[t] }) (hk : okSlice P t = true) (hx : RVs w G H xs [ρ x]) (hs : HS G H w) :
    Good P o ρ w G H (act pc base .cap xs) := by
  obtain ⟨vx, rfl, h1⟩ := RVs1 hx
  obtain ⟨el, hu⟩ := okSlice_ok hk
  have hrun : ∀ A n c, ρ x = .slice A n c → (execOp ρ o).run P w = .ok (.value (.int .i64 c)) w := fun A n c hp => by
    simp [execOp, ho, resolve, invoke, builtin, Builtin.cap_, run_underlying hu, hp, goInt]
  simp only [act, a1, aCap]
  refine Good.opt hs fun r e => ?_
  split at e <;> cases e
  · simp only [RV] at h1
    exact ⟨_, hrun _ _ _ h1, by simp only [RV, RD]; rfl⟩
  · simp only [RV] at h1
    obtain ⟨A, h1⟩ := h1
    exact ⟨_, hrun _ _ _ h1, by simp only [RV, RD]; rfl⟩
end
end Go.Vm
