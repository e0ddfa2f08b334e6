/- Operations of the machine on memory: blocks that are taken, read, written; fields, elements. -/
import Derived.Test.YtjffpbodflkehaaGreatDoorOVmOpsA
set_option linter.unusedVariables false
set_option linter.unusedSimpArgs false
namespace Go.Vm
open Go.RowKit

section
variable {P : Program} {o : Oper} {ρ : Operand → Value} {w : World} {G : Gh} {H : List Blk} {pc : Nat → List D → Option D} {base : Nat}

/-! ### A block that is taken -/
theorem alloc_mem {G : Gh} {H : List Blk} {w : World} (hs : HS G H w) {b : Nat} (hd : getB H b = .dead) (ty : TypeId) {c : List V} {cs : Array Value} (hl : c.length ≤ cs.size)
    (hc : ∀ (i : Nat) (x : V), c[i]? = some x → ∃ v : Value, cs[i]? = some v ∧ v.oneCell' = true ∧ RV w G H x v) :
    HS ⟨upd G.σ b w.heap.size, upd G.W w.heap.size (some 0)⟩ (setB H b (.mem 0 c)) (w.alloc (.cells cs ty)) ∧
    T w G H (w.alloc (.cells cs ty)) ⟨upd G.σ b w.heap.size, upd G.W w.heap.size (some 0)⟩ (setB H b (.mem 0 c)) ∧
    Holds (w.alloc (.cells cs ty)) w.heap.size cs := by
  have hT := T.alloc hs.lt hd (.cells cs ty) (.mem 0 c) (some 0)
  have hh : Holds (w.alloc (.cells cs ty)) w.heap.size cs := ⟨ty, heap_alloc_new w _⟩
  refine ⟨hs.alloc hd _ _ _ ⟨cs, ?_, hl, ?_, fun i x hi => ?_⟩, hT, hh⟩
  · show Holds _ (upd G.σ b w.heap.size b) cs
    rw [upd_same]; exact hh
  · show upd G.W w.heap.size (some 0) (upd G.σ b w.heap.size b) = some 0
    rw [upd_same, upd_same]
  · obtain ⟨v, hv, h1, hr⟩ := hc i x hi
    exact ⟨v, hv, h1, RV.ext hT.ext x v hr⟩

theorem fresh_put {b : Nat} {x : Blk} {v r : V} {H' : List Blk} (e : (Eff.put b (fresh x v)).run H = some (r, H')) : getB H b = .dead ∧ r = v ∧ H' = setB H b x := by
  simp only [Eff.run, Option.map_eq_some_iff, Prod.exists] at e
  obtain ⟨x', v', e, e'⟩ := e
  unfold fresh at e
  split at e
  · rename_i hd
    cases e
    injection e' with e1 e2
    exact ⟨hd, e1.symm, e2.symm⟩
  · cases e

theorem ptr_new (b : Nat) (c : List V) (w' : World) (σ W n) : RV w' ⟨upd σ b n, W⟩ (setB H b (.mem 0 c)) (.ptr b 0 0) (.pointer (some ⟨n, 0, none⟩)) := by
  simp only [RV]
  refine ⟨⟨_, rfl⟩, by rw [getB_setB, if_pos rfl]; simp, fun ver' cells he => ⟨Nat.zero_le _, fun _ => ?_⟩⟩
  rw [upd_same]

def okZero (P : Program) (e : TypeId) (zero : List V) : Bool :=
  match P.info? e with
  | some i => match i.zero with
    | some z => chkVs zero z.cells.toList && z.cells.toList.all Value.oneCell'
    | none => false
  | none => false
theorem okZero_ok {e : TypeId} {zero : List V} (h : okZero P e zero = true) : ∃ z, (∀ w, (zeroValue e).run P w = .ok z w) ∧ chkVs zero z.cells.toList = true ∧ Ones z.cells.toList := by
  unfold okZero at h
  split at h
  · rename_i i hi
    split at h
    · rename_i z hz
      simp only [Bool.and_eq_true] at h
      exact ⟨z, fun w => by simp [zeroValue, typeInfo, hi, hz], h.1, List.all_eq_true.1 h.2⟩
    · cases h
  · cases h

theorem op_alloc {e : TypeId} {b : Nat} {zero : List V} {xs : List V} (ho : o.op = .alloc e) (hz : okZero P e zero = true) (hx : RVs w G H xs []) (hs : HS G H w) : Good P o ρ w G H (act pc base (.alloc b zero) xs) := by
  obtain rfl := RVs0 hx
  simp only [act, a0, aAlloc]
  intro r H' h
  obtain ⟨hd, rfl, rfl⟩ := fresh_put h
  obtain ⟨z, hz, hc, hone⟩ := okZero_ok hz
  obtain ⟨h1, h2, h3⟩ := alloc_mem hs hd e (c := zero) (cs := z.cells) (by rw [chkVs_len hc]; simp) (fun i x hi => by
    have hr : RVs w G H zero z.cells.toList := chkVs_ok hc
    obtain ⟨v, hv, h⟩ := hr.get hi
    exact ⟨v, by simpa using hv, hone.get hv, h⟩)
  refine Does.value (w' := w.alloc (.cells z.cells e)) (v := .pointer (some ⟨w.heap.size, 0, none⟩)) ?_ ⟨_, ptr_new _ _ _ _ _ _, h1, h2⟩
  simp [execOp, ho, Instr.alloc, hz, newVar, newRow]

theorem op_box {e : TypeId} {b : Nat} {x : Operand} {xs : List V} (ho : o.op = .box e x) (hx : RVs w G H xs [ρ x]) (hs : HS G H w) : Good P o ρ w G H (act pc base (.box b) xs) := by
  obtain ⟨vx, rfl, hv⟩ := RVs1 hx
  simp only [act, a1, aBox]
  split
  · rename_i c hc
    intro r H' h
    obtain ⟨hd, rfl, rfl⟩ := fresh_put h
    obtain ⟨hr, hone⟩ := cellsV_ok hc hv
    obtain ⟨h1, h2, h3⟩ := alloc_mem hs hd e (c := c) (cs := (ρ x).cells) (by have := hr.length; simp at this; omega) (fun i y hi => by
      obtain ⟨v, hv, h⟩ := hr.get hi
      exact ⟨v, by simpa using hv, Ones.get hone hv, h⟩)
    refine Does.value (v := .pointer (some ⟨w.heap.size, 0, none⟩)) ?_ ⟨_, ptr_new _ _ _ _ _ _, h1, h2⟩
    simp [execOp, ho, Instr.box, newVar, newRow]
  · exact Good.none

/-! ### What is read -/
/-- Is a type of so many cells, and a struct or an array? -/
def okVar (P : Program) (t : TypeId) (agg : Bool) (n : Nat) : Bool :=
  (match P.info? t with | some i => i.size == n | none => false) &&
  (match P.underlying t with
   | some (.struct _) => agg
   | some (.array _ _) => agg
   | some _ => !agg
   | none => false)
theorem okVar_ok {t : TypeId} {agg : Bool} {n : Nat} (h : okVar P t agg n = true) : (∀ w, (isAgg t).run P w = .ok agg w) ∧ (∀ w, (sizeOf t).run P w = .ok n w) := by
  unfold okVar at h
  simp only [Bool.and_eq_true] at h
  obtain ⟨h1, h2⟩ := h
  constructor
  · intro w
    split at h2 <;> rename_i hu
    · simp [isAgg, run_underlying hu, h2]
    · simp [isAgg, run_underlying hu, h2]
    · rename_i d hn1 hn2
      have : agg = false := by simpa using h2
      subst this
      simp only [isAgg, Sem.run_bind, run_underlying hu, Result.andThen_ok]
      rfl
    · cases h2
  · intro w
    split at h1
    · rename_i i hi
      simp only [beq_iff_eq] at h1
      simp [sizeOf, typeInfo, hi, h1]
    · cases h1

theorem add_lit' (g o n : Nat) : (⟨g, o, none⟩ : Addr).add n = ⟨g, o + n, none⟩ := by unfold Addr.add; split <;> simp_all

theorem load_var {t : TypeId} {agg : Bool} {n g off : Nat} (h : okVar P t agg n = true) {vs : List Value} (hl : vs.length = n) (hc : ∀ (i : Nat) (v : Value), vs[i]? = some v → w.cell? ⟨g, off + i, none⟩ = some v) (hn : agg = false → n = 1) :
    (loadVar t ⟨g, off, none⟩).run P w = .ok (if agg then .agg vs.toArray else vs.getD 0 undef) w := by
  obtain ⟨h1, h2⟩ := okVar_ok h
  cases agg with
  | true =>
    have := run_loadCells_list (P := P) w ⟨g, off, none⟩ vs (fun j v hv => by rw [add_lit']; exact hc j v hv)
    rw [hl] at this
    simp [loadVar, h1, h2, this]
  | false =>
    have h1' := hn rfl
    subst h1'
    cases vs with
    | nil => simp at hl
    | cons v vs =>
      have := hc 0 v rfl
      simp only [Nat.add_zero] at this
      simp [loadVar, h1, run_load, this]

theorem RDcells_get {W : Nat → Option Nat} {g : Nat} : ∀ {cells : List D} {o : Nat}, RDcells w W g o cells → ∃ vs : List Value, vs.length = cells.length ∧ RDs w W cells vs ∧ ∀ (i : Nat) (v : Value), vs[i]? = some v → w.cell? ⟨g, o + i, none⟩ = some v ∧ imm W g (o + i) ∧ v.oneCell' = true
  | [], o, _ => ⟨[], rfl, by rw [RDs_nil], fun i v h => by simp at h⟩
  | c :: cs, o, h => by
    simp only [RDcells] at h
    obtain ⟨⟨v, hv, hi, h1, hr⟩, h⟩ := h
    obtain ⟨vs, hl, hs, hg⟩ := RDcells_get h
    refine ⟨v :: vs, by simp [hl], RDs_cons.2 ⟨v, vs, rfl, hr, hs⟩, fun i u hu => ?_⟩
    cases i with
    | zero => simp at hu; subst hu; exact ⟨hv, hi, h1⟩
    | succ i =>
      have := hg i u (by simpa using hu)
      rw [show o + (i + 1) = o + 1 + i by omega]; exact this

theorem RDs.take {W : Nat → Option Nat} {xs : List D} {vs : List Value} (n : Nat) (h : RDs w W xs vs) : RDs w W (xs.take n) (vs.take n) := by
  have h' : RVs w ⟨fun _ => 0, W⟩ [] (xs.map V.d) vs := RVs_map_d.2 h
  have := h'.take n
  rw [← List.map_take] at this
  exact RVs_map_d.1 this

/-- Cells of a block that is read. -/
theorem BR.read {b ver : Nat} {cells : List V} (hs : HS G H w) (hb : getB H b = .mem ver cells) : ∃ cs, Holds w (G.σ b) cs ∧ cells.length ≤ cs.size ∧ G.W (G.σ b) = some 0 ∧ RVs w G H cells (cs.toList.take cells.length) ∧ Ones (cs.toList.take cells.length) := by
  have := hs.blk b
  rw [hb] at this
  obtain ⟨cs, h1, h2, h3, h4⟩ := this
  refine ⟨cs, h1, h2, h3, RVs.of_get (by simp; omega) (fun i x hi => ?_), fun u hu => ?_⟩
  rotate_left
  · obtain ⟨i, hi⟩ := List.mem_iff_getElem?.1 hu
    rw [List.getElem?_take] at hi
    split at hi
    · rename_i hlt
      obtain ⟨v, hv, h1, _⟩ := h4 i _ (List.getElem?_eq_getElem hlt)
      simp only [Array.getElem?_toList] at hi
      rw [hi] at hv; cases hv; exact h1
    · cases hi
  obtain ⟨v, hv, _, hr⟩ := h4 i x hi
  refine ⟨v, ?_, hr⟩
  have hlt : i < cells.length := (List.getElem?_eq_some_iff.1 hi).1
  rw [List.getElem?_take, if_pos hlt]
  simpa using hv

theorem sureAddr_ok (a : Addr) (w : World) : (Instr.sureAddr (.pointer (some a))).run P w = .ok a w := rfl

theorem op_load {t : TypeId} {agg : Bool} {n : Nat} {x : Operand} {xs : List V} (ho : o.op = .load t x) (hv : okVar P t agg n = true) (hx : RVs w G H xs [ρ x]) (hs : HS G H w) : Good P o ρ w G H (act pc base (.load agg n) xs) := by
  obtain ⟨vx, rfl, h1⟩ := RVs1 hx
  simp only [act, a1, aLoad_eq, sLoad]
  split
  · rename_i b ver off
    intro r H' e
    simp only [Eff.run] at e
    split at e
    · rename_i ver' cells hb
      obtain ⟨cs, hh, hl, hW, hr, hone⟩ := BR.read hs hb
      simp only [Eff.run, Option.map_eq_some_iff, Prod.mk.injEq] at e
      obtain ⟨r', e, rfl, rfl⟩ := e
      split at e
      · rename_i hc
        obtain ⟨rfl, hlen⟩ := hc
        simp only [RV] at h1
        have hp := (h1.2.2 _ _ hb).2 rfl
        have hd := (hr.drop off).take n
        have hlv : (((cs.toList.take cells.length).drop off).take n).length = n := by simp; omega
        have hld := load_var (P := P) (w := w) (g := G.σ b) (off := off) hv hlv (fun i v hi => by
          rw [hh.cell]
          rw [List.getElem?_take] at hi
          split at hi
          · rw [List.getElem?_drop, List.getElem?_take] at hi
            split at hi
            · simpa using hi
            · cases hi
          · cases hi)
        have hrun : ∀ (hn : agg = false → n = 1), (execOp ρ o).run P w = .ok (.value (if agg then .agg (((cs.toList.take cells.length).drop off).take n).toArray else (((cs.toList.take cells.length).drop off).take n).getD 0 undef)) w := fun hn => by
          simp [execOp, ho, hp, Instr.loadAt, sureAddr_ok, hld hn]
        split at e
        · rename_i ha
          subst ha
          cases e
          refine Does.value (hrun (fun h => by cases h)) (Post.ret ?_ hs)
          simp only [RV, if_true]
          exact ⟨_, rfl, hd, (hone.drop _).take _⟩
        · rename_i ha
          split at e
          · rename_i hn
            subst hn
            refine Does.value (hrun (fun _ => rfl)) (Post.ret ?_ hs)
            rw [if_neg ha]
            obtain ⟨v, hv, hr⟩ := hd.get (i := 0) (x := r') (by simp [e])
            simpa [List.getD, hv] using hr
          · cases e
      · cases e
    · simp only [Eff.run] at e; cases e
  · rename_i cells
    refine Good.opt hs fun r e => ?_
    simp only [RV, RD] at h1
    obtain ⟨g, off, hp, hc⟩ := h1
    obtain ⟨vs, hl, hd, hg⟩ := RDcells_get hc
    split at e
    · rename_i hn
      have hlv : (vs.take n).length = n := by simp; omega
      have hd' := RDs.take n hd
      have hld := load_var (P := P) (w := w) (g := g) (off := off) hv hlv (fun i v hi => by
        rw [List.getElem?_take] at hi
        split at hi
        · exact (hg i v hi).1
        · cases hi)
      have hrun : ∀ (hn : agg = false → n = 1), (execOp ρ o).run P w = .ok (.value (if agg then .agg (vs.take n).toArray else (vs.take n).getD 0 undef)) w := fun hn => by
        simp [execOp, ho, hp, Instr.loadAt, sureAddr_ok, hld hn]
      split at e
      · rename_i ha
        subst ha
        cases e
        refine ⟨_, hrun (fun h => by cases h), ?_⟩
        simp only [RV, if_true]
        exact ⟨_, rfl, RVs_map_d.2 hd', fun u hu => by
          obtain ⟨i, hi⟩ := List.mem_iff_getElem?.1 (List.mem_of_mem_take hu)
          exact (hg i u hi).2.2⟩
      · rename_i ha
        split at e
        · rename_i hn
          subst hn
          simp only [Option.map_eq_some_iff] at e
          obtain ⟨d, e, rfl⟩ := e
          refine ⟨_, hrun (fun _ => rfl), ?_⟩
          rw [if_neg ha]
          have hh := RVs.get (G := G) (H := H) (RVs_map_d.2 hd') (i := 0) (x := .d d) (by simp [List.getElem?_take, e])
          obtain ⟨v, hv, hr⟩ := hh
          simpa [List.getD, hv] using hr
        · cases e
    · cases e
  · exact Good.none
end
end Go.Vm
