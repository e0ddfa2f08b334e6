/- Operations of the machine: structs and slices that are built. -/
import Derived.Test.YtjffpbodflkehaaGreatDoorOVmOpsF
set_option linter.unusedVariables false
set_option linter.unusedSimpArgs false
namespace Go.Vm
open Go.RowKit

section
variable {P : Program} {o : Oper} {ρ : Operand → Value} {w : World} {G : Gh} {H : List Blk} {pc : Nat → List D → Option D} {base : Nat}

/-! ### Cells that are filled -/
theorem foldl_set : ∀ (l : List Value) (k off : Nat) (cs : Array Value), off + k + l.length ≤ cs.size → ∀ i,
    ((l.zipIdx k).foldl (fun (cs : Array Value) (x : Value × Nat) => cs.setIfInBounds (off + x.2) x.1) cs)[i]? = if off + k ≤ i ∧ i < off + k + l.length then l[i - (off + k)]? else cs[i]?
  | [], k, off, cs, _, i => by
    simp only [List.zipIdx_nil, List.foldl_nil, List.length_nil, Nat.add_zero]
    rw [if_neg (by omega)]
  | x :: l, k, off, cs, h, i => by
    simp only [List.zipIdx_cons, List.foldl_cons]
    simp only [List.length_cons] at h
    rw [foldl_set l (k + 1) off _ (by simp; omega) i]
    by_cases h1 : off + (k + 1) ≤ i ∧ i < off + (k + 1) + l.length
    · rw [if_pos h1, if_pos (by simp only [List.length_cons]; omega)]
      rw [show i - (off + k) = (i - (off + (k + 1))) + 1 by omega, List.getElem?_cons_succ]
    · rw [if_neg h1, Array.getElem?_setIfInBounds]
      by_cases h2 : off + k = i
      · subst h2
        rw [if_pos rfl, if_pos (by omega), if_pos (by simp only [List.length_cons]; omega)]
        simp
      · rw [if_neg h2, if_neg (by simp only [List.length_cons]; omega)]

theorem foldl_splice {c : Array Value} {off : Nat} {cs : Array Value} (h : off + c.size ≤ cs.size) :
    c.zipIdx.foldl (fun (cs : Array Value) (x : Value × Nat) => cs.setIfInBounds (off + x.2) x.1) cs = spliceA cs off c.toList := by
  have e : c.zipIdx.foldl (fun (cs : Array Value) (x : Value × Nat) => cs.setIfInBounds (off + x.2) x.1) cs = (c.toList.zipIdx 0).foldl (fun (cs : Array Value) (x : Value × Nat) => cs.setIfInBounds (off + x.2) x.1) cs := by
    rw [← Array.foldl_toList, Array.toList_zipIdx]
  rw [e]
  apply Array.ext_getElem?
  intro i
  rw [foldl_set c.toList 0 off cs (by simpa using h) i, spliceA_get (by simpa using h)]
  simp

theorem splice_RVs {cells c : List V} {cs : Array Value} {vs : List Value} {off : Nat} (h1 : RVs w G H cells cs.toList) (h2 : RVs w G H c vs) (hf : off + c.length ≤ cells.length) : RVs w G H (splice cells off c) (spliceA cs off vs).toList := by
  have hl := h2.length
  unfold splice spliceA
  rw [← hl]
  exact ((h1.take off).append h2).append (h1.drop _)

theorem spliceA_ones {cs : Array Value} {vs : List Value} {off : Nat} (h1 : Ones cs.toList) (h2 : Ones vs) : Ones (spliceA cs off vs).toList :=
  ((h1.take off).append h2).append (h1.drop _)

/-- Parts put into cells. -/
theorem fill_ok {place : Nat → Option (Nat × Nat)} : ∀ {parts : List (Nat × Nat)} {ps : List (Nat × Value)} {cells r xs : List V} {cs : Array Value}, buildCells cells parts xs = some r →
    RVs w G H cells cs.toList → RVs w G H xs (ps.map Prod.snd) → (∀ (i : Nat) (p : Nat × Value), ps[i]? = some p → place p.1 = parts[i]?) →
    Ones cs.toList → ∃ cs', Instr.fill place cs ps = some cs' ∧ RVs w G H r cs'.toList ∧ Ones cs'.toList
  | [], ps, cells, r, xs, cs, h, hc, hx, hp, ho => by
    cases xs with
    | cons _ _ => simp [buildCells] at h
    | nil =>
      simp only [buildCells, Option.some.injEq] at h
      subst h
      cases ps with
      | nil => exact ⟨cs, rfl, hc, ho⟩
      | cons p ps => rw [List.map_cons] at hx; rw [RVs_nil] at hx; cases hx
  | (off, n) :: parts, ps, cells, r, xs, cs, h, hc, hx, hp, ho => by
    cases xs with
    | nil => simp [buildCells] at h
    | cons x xs =>
      simp only [buildCells, Option.bind_eq_some_iff] at h
      obtain ⟨c, hcx, h⟩ := h
      split at h
      · rename_i hq
        obtain ⟨hcn, hfit⟩ := hq
        cases ps with
        | nil => rw [List.map_nil] at hx; obtain ⟨_, _, e, _⟩ := RVs_cons.1 hx; cases e
        | cons p ps =>
          obtain ⟨i, v⟩ := p
          rw [List.map_cons] at hx
          obtain ⟨_, _, e, hv, hxs⟩ := RVs_cons.1 hx
          cases e
          have hpl := hp 0 (i, v) rfl
          simp only [List.getElem?_cons_zero] at hpl
          obtain ⟨hr, hro⟩ := cellsV_ok hcx hv
          have hlen := hr.length
          have hcl := hc.length
          simp only [Array.length_toList] at hlen hcl
          have hfit' : off + v.cells.size ≤ cs.size := by omega
          have hs := splice_RVs hc hr (off := off) (by omega)
          obtain ⟨cs', h1, h2⟩ := fill_ok h hs hxs (fun j q hj => by
            have := hp (j + 1) q (by simpa using hj)
            simpa using this) (spliceA_ones ho hro)
          refine ⟨cs', ?_, h2⟩
          simp only [Instr.fill, hpl]
          have : (decide (v.cells.size ≠ n) || decide (off + v.cells.size > cs.size)) = false := by
            simp; omega
          rw [if_neg (by rw [this]; simp)]
          have e := foldl_splice hfit'
          rw [e]
          exact h1
      · cases h

def placesOf (P : Program) (t : TypeId) : Option (List (Nat × Nat)) :=
  match P.underlying t with
  | some (.struct fields) => fields.toList.mapM (fun f => (P.info? f.type).map fun i => (f.offset, i.size))
  | _ => none
def okParts (places : List (Nat × Nat)) : List (Nat × Nat) → List (Nat × Operand) → Bool
  | [], [] => true
  | q :: qs, p :: ps => (places[p.1]? == some q) && okParts places qs ps
  | _, _ => false
theorem okParts_ok {places : List (Nat × Nat)} : ∀ {qs : List (Nat × Nat)} {ps : List (Nat × Operand)}, okParts places qs ps = true → ∀ (i : Nat) (p : Nat × Operand), ps[i]? = some p → places[p.1]? = qs[i]?
  | [], [], _, i, p, h => by simp at h
  | q :: qs, p :: ps, h, i, x, hi => by
    simp only [okParts, Bool.and_eq_true, beq_iff_eq] at h
    cases i with
    | zero => simp at hi; subst hi; simpa using h.1
    | succ i => simpa using okParts_ok h.2 i x (by simpa using hi)
  | [], _ :: _, h, _, _, _ => by simp [okParts] at h
  | _ :: _, [], h, _, _, _ => by simp [okParts] at h
def okBuild (P : Program) (t : TypeId) (zero : List V) (parts : List (Nat × Nat)) (ps : List (Nat × Operand)) : Bool :=
  okZero P t zero && (match placesOf P t with
  | some places => okParts places parts ps
  | none => false)

theorem op_build {t : TypeId} {zero : List V} {parts : List (Nat × Nat)} {ps : List (Nat × Operand)} {xs : List V} (ho : o.op = .build t ps.toArray) (hk : okBuild P t zero parts ps = true)
    (hx : RVs w G H xs (ps.map fun p => ρ p.2)) (hs : HS G H w) : Good P o ρ w G H (act pc base (.build zero parts) xs) := by
  simp only [act, aBuild]
  refine Good.opt hs fun r e => ?_
  simp only [Option.map_eq_some_iff] at e
  obtain ⟨cells, e, rfl⟩ := e
  simp only [okBuild, Bool.and_eq_true] at hk
  obtain ⟨hz, hk⟩ := hk
  split at hk
  · rename_i places hpl
    unfold okZero at hz
    split at hz
    · rename_i it hit
      split at hz
      · rename_i z hzz
        simp only [Bool.and_eq_true] at hz
        have hr : RVs w G H zero z.cells.toList := chkVs_ok hz.1
        obtain ⟨cs', h1, h2, h3⟩ := fill_ok (place := (places.toArray[·]?)) (ps := ps.map fun p => (p.1, ρ p.2)) e hr (by rw [List.map_map]; exact hx) (fun i p hp => by
          simp only [List.getElem?_map, Option.map_eq_some_iff] at hp
          obtain ⟨q, hq, rfl⟩ := hp
          simpa using okParts_ok hk i q hq) (List.all_eq_true.1 hz.2)
        unfold placesOf at hpl
        split at hpl
        · rename_i fields hu
          have hb : P.built t (ps.map fun p => (p.1, ρ p.2)) = some cs' := by
            simp only [Program.built, hit, hu, hzz, hpl]
            exact h1
          have := run_build (P := P) w t (ps.map fun p => (p.1, ρ p.2)).toArray cs' (by simpa using hb)
          refine ⟨.agg cs', by simp [execOp, ho, this], ?_⟩
          simp only [RV]
          exact ⟨cs'.toList, rfl, h2, h3⟩
        · cases hpl
      · cases hz
    · cases hz
  · cases hk

/-! ### Slices that are built -/
theorem flat_get {α : Type} (l : List α) : ∀ (n i : Nat), i < n * l.length → (List.replicate n l).flatten[i]? = l[i % l.length]?
  | 0, i, h => by simp at h
  | n + 1, i, h => by
    rw [List.replicate_succ, List.flatten_cons, List.getElem?_append]
    split
    · rename_i hlt; rw [Nat.mod_eq_of_lt hlt]
    · rename_i hlt
      have h' : i < n * l.length + l.length := by rw [Nat.add_mul, Nat.one_mul] at h; exact h
      rw [flat_get l n (i - l.length) (by omega)]
      congr 1
      exact (Nat.mod_eq_sub_mod (by omega)).symm

theorem zeros_eq (zero : Array Value) (n : Nat) : ((Array.range (n * zero.size)).map (zero[· % zero.size]!)).toList = (List.replicate n zero.toList).flatten := by
  apply List.ext_getElem?
  intro i
  by_cases h : i < n * zero.size
  · have hz : 0 < zero.size := by
      rcases Nat.eq_zero_or_pos zero.size with h0 | h0
      · rw [h0] at h; simp at h
      · exact h0
    have hm := Nat.mod_lt i hz
    rw [flat_get zero.toList n i (by simpa using h)]
    simp [h, hm]
  · rw [List.getElem?_eq_none (by simp; omega), List.getElem?_eq_none (by simp; omega)]

theorem RVs_flat {zero : List V} {zs : List Value} (h : RVs w G H zero zs) : ∀ n, RVs w G H (List.replicate n zero).flatten (List.replicate n zs).flatten
  | 0 => by simp [RVs_nil]
  | n + 1 => by
    simp only [List.replicate_succ, List.flatten_cons]
    exact h.append (RVs_flat h n)

theorem Ones_flat {zs : List Value} (h : Ones zs) : ∀ n, Ones (List.replicate n zs).flatten
  | 0 => fun u hu => by simp at hu
  | n + 1 => by
    simp only [List.replicate_succ, List.flatten_cons]
    exact h.append (Ones_flat h n)

/-- What 'buildSlice' comes to. -/
theorem run_buildSlice {t e : TypeId} {n sz : Nat} {z : Value} {ps : List (Nat × Value)} {cs : Array Value} (hu : P.underlying t = some (.slice e)) (hz : ∀ w, (sizeOf e).run P w = .ok sz w) (hzero : ∀ w, (zeroValue e).run P w = .ok z w)
    (hsz : z.cells.size = sz) (hbig : n * sz ≤ 2 ^ 24) (hf : Instr.fill (fun i => some (i * sz, sz)) ((Array.range (n * sz)).map (z.cells[· % z.cells.size]!)) ps = some cs) :
    (Instr.buildSlice t n ps.toArray).run P w = .ok (.slice (some ⟨w.heap.size, 0, none⟩) n n) (w.alloc (.cells cs e)) := by
  by_cases h0 : n * sz = 0
  · have hf' : Instr.fill (fun i => some (i * sz, sz)) ((Array.range (n * sz)).map ((#[] : Array Value)[· % (#[] : Array Value).size]!)) ps = some cs := by
      have : ∀ f g : Nat → Value, (Array.range 0).map f = (Array.range 0).map g := fun f g => by simp
      rw [h0] at hf ⊢
      rw [this _ (fun x => z.cells[x % z.cells.size]!)]
      exact hf
    simp only [Instr.buildSlice, Sem.run_bind, run_underlying hu, Result.andThen_ok, hz, if_neg (Nat.not_lt.2 hbig), Sem.run_ite, if_pos h0, Sem.run_pure]
    rw [hf']
    simp [newRow]
  · simp only [Instr.buildSlice, Sem.run_bind, run_underlying hu, Result.andThen_ok, hz, if_neg (Nat.not_lt.2 hbig), Sem.run_ite, if_neg h0, Sem.run_pure, hzero]
    rw [hf]
    simp [newRow]

def okElems (P : Program) (t : TypeId) (sz : Nat) (zero : List V) : Bool :=
  match P.underlying t with
  | some (.slice e) => okSize P e sz && okZero P e zero && zero.length == sz
  | _ => false
theorem okElems_ok {t : TypeId} {sz : Nat} {zero : List V} (h : okElems P t sz zero = true) : ∃ e z, P.underlying t = some (.slice e) ∧ (∀ w, (sizeOf e).run P w = .ok sz w) ∧ (∀ w, (zeroValue e).run P w = .ok z w) ∧ chkVs zero z.cells.toList = true ∧ z.cells.size = sz ∧ Ones z.cells.toList := by
  unfold okElems at h
  split at h
  · simp only [Bool.and_eq_true, beq_iff_eq] at h
    obtain ⟨⟨h1, h2⟩, h3⟩ := h
    obtain ⟨z, hz, hc, ho⟩ := okZero_ok h2
    exact ⟨_, z, by assumption, okSize_ok h1, hz, hc, by have := chkVs_len hc; simp at this; omega, ho⟩
  · cases h
def okIx : List Nat → List (Nat × Operand) → Bool
  | [], [] => true
  | i :: is, p :: ps => (i == p.1) && okIx is ps
  | _, _ => false
theorem okIx_ok : ∀ {is : List Nat} {ps : List (Nat × Operand)}, okIx is ps = true → is = ps.map Prod.fst
  | [], [], _ => rfl
  | i :: is, p :: ps, h => by
    simp only [okIx, Bool.and_eq_true, beq_iff_eq] at h
    simp [h.1, okIx_ok h.2]
  | [], _ :: _, h => by simp [okIx] at h
  | _ :: _, [], h => by simp [okIx] at h

theorem arr_new {b n sz : Nat} {c : List V} {cs : Array Value} {ty : TypeId} (hh : Holds (w.alloc (.cells cs ty)) w.heap.size cs) {cap : Nat} (hn : n ≤ cap) (hz : cs.size = cap * sz) :
    RV (w.alloc (.cells cs ty)) ⟨upd G.σ b w.heap.size, upd G.W w.heap.size (some 0)⟩ (setB H b (.mem 0 c)) (.arr b 0 sz 0 n) (.slice (some ⟨w.heap.size, 0, none⟩) n cap) := by
  simp only [RV]
  refine ⟨⟨_, _, rfl, hn⟩, by rw [getB_setB, if_pos rfl]; simp, fun ver' cells he => ⟨Nat.zero_le _, fun _ => ?_⟩⟩
  exact ⟨_, _, cs, rfl, hn, fun _ => by rw [upd_same], by rw [upd_same], by rw [upd_same]; exact hh, by omega⟩

theorem op_bsa {t : TypeId} {b sz n : Nat} {zero : List V} {ix : List Nat} {ps : List (Nat × Operand)} {xs : List V} (ho : o.op = .buildSlice t n ps.toArray) (hk : okElems P t sz zero = true) (hi : okIx ix ps = true) (hbig : n * sz ≤ 2 ^ 24)
    (hx : RVs w G H xs (ps.map fun p => ρ p.2)) (hs : HS G H w) : Good P o ρ w G H (act pc base (.bsa b sz zero n ix) xs) := by
  obtain ⟨e, z, hu, hz, hzero, hc, hzs, hone⟩ := okElems_ok hk
  have hix := okIx_ok hi
  have hr : RVs w G H zero z.cells.toList := chkVs_ok hc
  simp only [act, aBsa]
  split
  · rename_i c hcc
    split at hcc
    · intro r H' eq
      obtain ⟨hd, rfl, rfl⟩ := fresh_put eq
      have h0 : RVs w G H (List.replicate n zero).flatten ((Array.range (n * sz)).map (z.cells[· % z.cells.size]!)).toList := by
        rw [← hzs, zeros_eq]; exact RVs_flat hr n
      have ho0 : Ones ((Array.range (n * sz)).map (z.cells[· % z.cells.size]!)).toList := by
        rw [← hzs, zeros_eq]; exact Ones_flat hone n
      obtain ⟨cs', h1, h2, h3⟩ := fill_ok (place := fun i => some (i * sz, sz)) (ps := ps.map fun p => (p.1, ρ p.2)) hcc h0 (by rw [List.map_map]; exact hx) (fun i p hp => by
        simp only [List.getElem?_map, Option.map_eq_some_iff] at hp
        obtain ⟨q, hq, rfl⟩ := hp
        simp [hix, hq]) ho0
      have hrun := run_buildSlice (P := P) (w := w) hu hz hzero hzs hbig h1
      have hl := h2.length
      have hcl : c.length = n * sz := by
        have : ∀ {cells r xs : List V} {parts : List (Nat × Nat)}, buildCells cells parts xs = some r → r.length = cells.length := by
          intro cells r xs parts
          induction parts generalizing cells xs with
          | nil => intro h; cases xs <;> simp [buildCells] at h; rw [h]
          | cons p parts ih =>
            intro h
            cases xs with
            | nil => simp [buildCells] at h
            | cons x xs =>
              simp only [buildCells, Option.bind_eq_some_iff] at h
              obtain ⟨c, _, h⟩ := h
              split at h
              · rename_i hq
                rw [ih h, splice_len (by omega)]
              · cases h
        rw [this hcc]
        have hz' : zero.length = sz := by have := chkVs_len hc; simp at this; omega
        simp [hz']
      simp only [Array.length_toList] at hl
      obtain ⟨g1, g2, g3⟩ := alloc_mem hs hd e (c := c) (cs := cs') (by omega) (fun i x hi => by
        obtain ⟨v, hv, h⟩ := h2.get hi
        exact ⟨v, by simpa using hv, h3.get hv, h⟩)
      refine Does.value (w' := w.alloc (.cells cs' e)) (v := .slice (some ⟨w.heap.size, 0, none⟩) n n) ?_ ⟨_, arr_new g3 (Nat.le_refl _) (by omega), g1, g2⟩
      simp [execOp, ho, hrun]
    · cases hcc
  · exact Good.none

/-! ### Slices of data that are built -/
theorem flatten_set {sz : Nat} : ∀ {rows : List (List D)} {i : Nat} {r : List D}, (∀ x, x ∈ rows → x.length = sz) → r.length = sz → i < rows.length →
    (rows.set i r).flatten = rows.flatten.take (i * sz) ++ r ++ rows.flatten.drop (i * sz + sz)
  | x :: rows, 0, r, h, hr, _ => by
    have hx := h x (by simp)
    simp only [List.set_cons_zero, List.flatten_cons, Nat.zero_mul, List.take_zero, List.nil_append, Nat.zero_add]
    rw [List.drop_left' hx]
  | x :: rows, i + 1, r, h, hr, hi => by
    have hx := h x (by simp)
    have ih := flatten_set (rows := rows) (i := i) (fun y hy => h y (by simp [hy])) hr (by simpa using hi)
    simp only [List.set_cons_succ, List.flatten_cons, ih]
    have e1 : (i + 1) * sz = x.length + i * sz := by rw [Nat.add_mul, hx]; omega
    rw [e1, List.take_length_add_append, Nat.add_assoc, List.drop_length_add_append]
    simp
  | [], _, _, _, _, h => by simp at h

theorem RDs_append {W : Nat → Option Nat} {xs ys : List D} {us ts : List Value} (h1 : RDs w W xs us) (h2 : RDs w W ys ts) : RDs w W (xs ++ ys) (us ++ ts) := by
  have := RVs.append (G := ⟨fun _ => 0, W⟩) (H := []) (RVs_map_d.2 h1) (RVs_map_d.2 h2)
  rw [← List.map_append] at this
  exact RVs_map_d.1 this
theorem RDs.drop {W : Nat → Option Nat} {xs : List D} {vs : List Value} (n : Nat) (h : RDs w W xs vs) : RDs w W (xs.drop n) (vs.drop n) := by
  have h' : RVs w ⟨fun _ => 0, W⟩ [] (xs.map V.d) vs := RVs_map_d.2 h
  have := h'.drop n
  rw [← List.map_drop] at this
  exact RVs_map_d.1 this

theorem setRows_ok {sz : Nat} : ∀ {is : List Nat} {ps : List (Nat × Value)} {rows r : List (List D)} {xs : List V} {cs : Array Value}, setRows sz rows is xs = some r → is = ps.map Prod.fst →
    (∀ x, x ∈ rows → x.length = sz) → RDs w G.W rows.flatten cs.toList → RVs w G H xs (ps.map Prod.snd) → Ones cs.toList →
    ∃ cs', Instr.fill (fun i => some (i * sz, sz)) cs ps = some cs' ∧ RDs w G.W r.flatten cs'.toList ∧ (∀ x, x ∈ r → x.length = sz) ∧ r.length = rows.length ∧ Ones cs'.toList
  | [], ps, rows, r, xs, cs, h, hi, hr, hc, hx, ho => by
    cases xs with
    | cons _ _ => simp [setRows] at h
    | nil =>
      simp only [setRows, Option.some.injEq] at h
      subst h
      cases ps with
      | nil => exact ⟨cs, rfl, hc, hr, rfl, ho⟩
      | cons p ps => simp at hi
  | i :: is, ps, rows, r, xs, cs, h, hi, hr, hc, hx, ho => by
    cases xs with
    | nil => simp [setRows] at h
    | cons x xs =>
      simp only [setRows, Option.bind_eq_some_iff] at h
      obtain ⟨c, hcx, row, hrow, h⟩ := h
      split at h
      · rename_i hq
        obtain ⟨hsz, hlt⟩ := hq
        cases ps with
        | nil => simp at hi
        | cons p ps =>
          obtain ⟨j, v⟩ := p
          simp only [List.map_cons, List.cons.injEq] at hi
          obtain ⟨rfl, hi⟩ := hi
          rw [List.map_cons] at hx
          obtain ⟨_, _, e, hv, hxs⟩ := RVs_cons.1 hx
          cases e
          obtain ⟨hcells, hco⟩ := cellsV_ok hcx hv
          have hd := toDs_ok _ _ _ hrow hcells
          have hl := hd.length
          simp only [Array.length_toList] at hl
          have hcl := hc.length
          have hfl : rows.flatten.length = rows.length * sz := by
            clear h hlt hc hcl
            induction rows with
            | nil => simp
            | cons y ys ih =>
              rw [List.flatten_cons, List.length_append, ih (fun z hz => hr z (by simp [hz])), hr y (by simp), List.length_cons, Nat.add_mul]
              omega
          simp only [Array.length_toList] at hcl
          have hmul : i * sz + sz ≤ rows.length * sz := by
            have := Nat.mul_le_mul_right sz (show i + 1 ≤ rows.length by omega)
            rw [Nat.add_mul] at this; omega
          have hfit' : i * sz + v.cells.size ≤ cs.size := by omega
          have hs : RDs w G.W (rows.set i row).flatten (spliceA cs (i * sz) v.cells.toList).toList := by
            rw [flatten_set hr hsz hlt]
            unfold spliceA
            simp only [Array.length_toList, hl, hsz]
            exact RDs_append (RDs_append (hc.take _) hd) (hc.drop _)
          obtain ⟨cs', h1, h2, h3, h4, h5⟩ := setRows_ok h hi (fun y hy => by
            rcases List.mem_or_eq_of_mem_set hy with h | h
            · exact hr y h
            · rw [h]; exact hsz) hs hxs (spliceA_ones ho hco)
          refine ⟨cs', ?_, h2, h3, by rw [h4, List.length_set], h5⟩
          simp only [Instr.fill]
          have : (decide (v.cells.size ≠ sz) || decide (i * sz + v.cells.size > cs.size)) = false := by
            simp; omega
          rw [if_neg (by rw [this]; simp)]
          have e := foldl_splice hfit'
          rw [e]
          exact h1
      · cases h

def chkDs : List D → List Value → Bool
  | [], [] => true
  | x :: l, y :: r => chkD0 x y && chkDs l r
  | _, _ => false
theorem chkDs_ok {W : Nat → Option Nat} : ∀ {xs : List D} {vs : List Value}, chkDs xs vs = true → RDs w W xs vs
  | [], [], _ => by rw [RDs_nil]
  | x :: l, y :: r, h => by
    simp only [chkDs, Bool.and_eq_true] at h
    exact RDs_cons.2 ⟨y, r, rfl, chkD0_ok h.1, chkDs_ok h.2⟩
  | [], _ :: _, h => by simp [chkDs] at h
  | _ :: _, [], h => by simp [chkDs] at h
def okZeroD (P : Program) (e : TypeId) (zero : List D) : Bool :=
  match P.info? e with
  | some i => match i.zero with
    | some z => chkDs zero z.cells.toList && z.cells.toList.all Value.oneCell'
    | none => false
  | none => false
def okElemsD (P : Program) (t : TypeId) (sz : Nat) (zero : List D) : Bool :=
  match P.underlying t with
  | some (.slice e) => okSize P e sz && okZeroD P e zero && zero.length == sz
  | _ => false
theorem okElemsD_ok {t : TypeId} {sz : Nat} {zero : List D} (h : okElemsD P t sz zero = true) : ∃ e z, P.underlying t = some (.slice e) ∧ (∀ w, (sizeOf e).run P w = .ok sz w) ∧ (∀ w, (zeroValue e).run P w = .ok z w) ∧
    (∀ w W, RDs w W zero z.cells.toList) ∧ z.cells.size = sz ∧ zero.length = sz ∧ Ones z.cells.toList := by
  unfold okElemsD at h
  split at h
  · simp only [Bool.and_eq_true, beq_iff_eq] at h
    obtain ⟨⟨h1, h2⟩, h3⟩ := h
    unfold okZeroD at h2
    split at h2
    · rename_i i hi
      split at h2
      · rename_i z hz
        simp only [Bool.and_eq_true] at h2
        have hl := (chkDs_ok (w := default) (W := fun _ => none) h2.1).length
        simp only [Array.length_toList] at hl
        exact ⟨_, z, by assumption, okSize_ok h1, fun w => by simp [zeroValue, typeInfo, hi, hz], fun w W => chkDs_ok h2.1, by omega, h3, List.all_eq_true.1 h2.2⟩
      · cases h2
    · cases h2
  · cases h

theorem RDs_flat {W : Nat → Option Nat} {zero : List D} {zs : List Value} (h : RDs w W zero zs) : ∀ n, RDs w W (List.replicate n zero).flatten (List.replicate n zs).flatten
  | 0 => by simp [RDs_nil]
  | n + 1 => by
    simp only [List.replicate_succ, List.flatten_cons]
    exact RDs_append h (RDs_flat h n)

theorem op_bsl {t : TypeId} {sz n : Nat} {zero : List D} {ix : List Nat} {ps : List (Nat × Operand)} {xs : List V} (ho : o.op = .buildSlice t n ps.toArray) (hk : okElemsD P t sz zero = true) (hi : okIx ix ps = true) (hbig : n * sz ≤ 2 ^ 24)
    (hx : RVs w G H xs (ps.map fun p => ρ p.2)) (hs : HS G H w) : Good P o ρ w G H (act pc base (.bsl sz zero n ix) xs) := by
  obtain ⟨e, z, hu, hz, hzero, hc, hzs, hzl, hone⟩ := okElemsD_ok hk
  have hix := okIx_ok hi
  simp only [act, aBsl]
  refine Good.ret fun r eq => ?_
  have key : ∀ (rows : List (List D)), setRows sz (List.replicate n zero) ix xs = some rows → ∃ cs, (execOp ρ o).run P w = .ok (.value (.slice (some ⟨w.heap.size, 0, none⟩) n n)) (w.alloc (.cells cs e)) ∧
      RDs w G.W rows.flatten cs.toList ∧ (∀ x, x ∈ rows → x.length = sz) ∧ rows.length = n ∧ Ones cs.toList := fun rows hrows => by
    have h0 : RDs w G.W (List.replicate n zero).flatten ((Array.range (n * sz)).map (z.cells[· % z.cells.size]!)).toList := by
      rw [← hzs, zeros_eq]; exact RDs_flat (hc w G.W) n
    have ho0 : Ones ((Array.range (n * sz)).map (z.cells[· % z.cells.size]!)).toList := by
      rw [← hzs, zeros_eq]; exact Ones_flat hone n
    obtain ⟨cs', h1, h2, h3, h4, h5⟩ := setRows_ok (ps := ps.map fun p => (p.1, ρ p.2)) hrows (by rw [hix, List.map_map]; rfl) (fun x hx => by rw [(List.mem_replicate.1 hx).2]; exact hzl) h0 (by rw [List.map_map]; exact hx) ho0
    have hrun := run_buildSlice (P := P) (w := w) hu hz hzero hzs hbig h1
    exact ⟨cs', by simp [execOp, ho, hrun], h2, h3, by rw [h4, List.length_replicate], h5⟩
  split at eq
  · rename_i hn
    subst hn
    split at eq
    · rename_i hxe
      cases eq
      have hx0 : xs = [] := by simpa using hxe
      subst hx0
      have hps : ps = [] := by
        cases ps with
        | nil => rfl
        | cons _ _ => rw [RVs_nil] at hx; cases hx
      subst hps
      obtain ⟨cs, hr, _⟩ := key [] (by rw [hix]; rfl)
      refine Does.value hr ⟨_, ?_, hs.mint _ none, T.mint hs _ none⟩
      simp only [RV]
      exact ⟨_, rfl⟩
    · cases eq
  · simp only [Option.map_eq_some_iff] at eq
    obtain ⟨rows, hrows, rfl⟩ := eq
    obtain ⟨cs, hr, h2, h3, h4, h5⟩ := key rows hrows
    refine Does.value hr ⟨_, ?_, hs.mint _ none, T.mint hs _ none⟩
    have := list_new hs (C := cs) (t := e) (fr := (0, 0)) h3 h2 h5 (fun i v h => by simpa using h) (cap := n) (by omega)
    simp only [RV]
    rw [h4] at this
    exact ⟨by rw [h4] at *; exact this, _, by rw [h4]⟩
end
end Go.Vm
