/- Operations of the machine: slices that are made; appended to. -/
import Derived.Test.YtjffpbodflkehaaGreatDoorOVmOpsG
import Derived.Laws.MakeOwn
set_option linter.unusedVariables false
set_option linter.unusedSimpArgs false
namespace Go.Vm
open Go.RowKit

section
variable {P : Program} {o : Oper} {ρ : Operand → Value} {w : World} {G : Gh} {H : List Blk} {pc : Nat → List D → Option D} {base : Nat}

/-- A slice's type and its element's. -/
structure El (P : Program) (t e : TypeId) (i : TypeInfo) (z : Value) (sz bytes : Nat) : Prop where
  under : P.underlying t = some (.slice e)
  info : P.info? e = some i
  size : i.size = sz
  bytesz : i.bytes = bytes
  pos : 0 < bytes
  spos : 0 < sz
  zero : i.zero = some z
  cells : z.cells.size = sz
  ones : Ones z.cells.toList
def okEl (P : Program) (t : TypeId) (sz bytes : Nat) : Bool :=
  match P.underlying t with
  | some (.slice e) => (match P.info? e with
    | some i => i.size == sz && i.bytes == bytes && decide (0 < bytes) && decide (0 < sz) && (match i.zero with
      | some z => z.cells.size == sz && z.cells.toList.all Value.oneCell'
      | none => false)
    | none => false)
  | _ => false
theorem okEl_ok {t : TypeId} {sz bytes : Nat} (h : okEl P t sz bytes = true) : ∃ e i z, El P t e i z sz bytes := by
  unfold okEl at h
  split at h
  · rename_i e hu
    split at h
    · rename_i i hi
      simp only [Bool.and_eq_true, beq_iff_eq, decide_eq_true_eq] at h
      obtain ⟨⟨⟨⟨h1, h2⟩, h3⟩, h4⟩, h5⟩ := h
      split at h5
      · rename_i z hz
        simp only [Bool.and_eq_true, beq_iff_eq] at h5
        exact ⟨e, i, z, hu, hi, h1, h2, h3, h4, hz, h5.1, List.all_eq_true.1 h5.2⟩
      · cases h5
    · cases h
  · cases h
theorem El.sizeOf {t e : TypeId} {i : TypeInfo} {z : Value} {sz bytes : Nat} (h : El P t e i z sz bytes) (w : World) : (sizeOf e).run P w = .ok sz w := by
  simp [Go.sizeOf, typeInfo, h.info, h.size]
theorem El.zeroValue {t e : TypeId} {i : TypeInfo} {z : Value} {sz bytes : Nat} (h : El P t e i z sz bytes) (w : World) : (zeroValue e).run P w = .ok z w := by
  simp [Go.zeroValue, typeInfo, h.info, h.zero]

/-- Is this the zero of a slice's element? -/
def okElZ (P : Program) (t : TypeId) (zero : List V) : Bool :=
  match P.underlying t with
  | some (.slice e) => okZero P e zero
  | _ => false
theorem okElZ_ok {t e : TypeId} {i : TypeInfo} {z : Value} {sz bytes : Nat} (h : El P t e i z sz bytes) {zero : List V} (hz : okElZ P t zero = true) : chkVs zero z.cells.toList = true ∧ zero.length = sz := by
  unfold okElZ at hz
  rw [h.under] at hz
  simp only at hz
  obtain ⟨z', h1, h2, _⟩ := okZero_ok hz
  have := (h1 default).symm.trans (h.zeroValue default)
  cases this
  exact ⟨h2, by have := chkVs_len h2; simp at this; rw [this, h.cells]⟩

theorem mk_len {bytes c : Nat} (hp : 0 < bytes) (h : c * bytes ≤ maxBytes) : c ≤ 140737488355328 := by
  have := Nat.le_mul_of_pos_right c hp
  unfold maxBytes at h
  omega

theorem op_mksl {t : TypeId} {b sz bytes : Nat} {zero : List V} {x y : Operand} {xs : List V} (ho : o.op = .makeSlice t x y) (hk : okEl P t sz bytes = true) (hkz : okElZ P t zero = true)
    (hx : RVs w G H xs [ρ x, ρ y]) (hs : HS G H w) : Good P o ρ w G H (act pc base (.mksl b sz zero bytes) xs) := by
  obtain ⟨vx, vy, rfl, h1, h2⟩ := RVs2 hx
  obtain ⟨e, i, z, hE⟩ := okEl_ok hk
  obtain ⟨hcz, hzl⟩ := okElZ_ok hE hkz
  simp only [act, a2, aMksl]
  split
  · rename_i l c hl hc
    split
    · rename_i hq
      obtain ⟨hlc, hcb, _⟩ := hq
      intro r H' eq
      obtain ⟨hd, rfl, rfl⟩ := fresh_put eq
      obtain ⟨k, hvx⟩ := asNat_ok hl h1
      obtain ⟨k', hvy⟩ := asNat_ok hc h2
      have hc' := mk_len hE.pos hcb
      have hb' : (i.bytes : Int) * (c : Int) ≤ 281474976710656 := by
        have : ((i.bytes : Int) * (c : Int)) = ((c * i.bytes : Nat) : Int) := by rw [Nat.mul_comm]; simp
        rw [this, hE.bytesz]; unfold maxBytes at hcb; omega
      have hrun := run_make (P := P) w t e i z hE.under hE.info hE.zero k k' l c (by omega) (by omega) hb' (by omega)
      simp only [Int.toNat_natCast] at hrun
      rw [hE.size] at hrun
      have hcells : (madeCells z.cells (c * sz)).toList = (List.replicate c z.cells.toList).flatten := by
        rw [← hE.cells]; exact zeros_eq z.cells c
      have hr : RVs w G H (List.replicate c zero).flatten (madeCells z.cells (c * sz)).toList := by
        rw [hcells]; exact RVs_flat (chkVs_ok hcz) c
      have hone : Ones (madeCells z.cells (c * sz)).toList := by rw [hcells]; exact Ones_flat hE.ones c
      obtain ⟨g1, g2, g3⟩ := alloc_mem hs hd e (c := (List.replicate c zero).flatten) (cs := madeCells z.cells (c * sz)) (by have := hr.length; simp only [Array.length_toList] at this; omega) (fun i x hi => by
        obtain ⟨v, hv, h⟩ := hr.get hi
        exact ⟨v, by simpa using hv, hone.get hv, h⟩)
      refine Does.value (w' := w.alloc (.cells (madeCells z.cells (c * sz)) e)) (v := .slice (some ⟨w.heap.size, 0, none⟩) l c) ?_ ⟨_, arr_new g3 hlc (size_madeCells _ _), g1, g2⟩
      simp [execOp, ho, hvx, hvy, hrun]
    · exact Good.none
  · exact Good.none

/-- The zero of a slice's element, as data. -/
def okElD (P : Program) (t : TypeId) (zero : List D) : Bool :=
  match P.underlying t with
  | some (.slice e) => okZeroD P e zero
  | _ => false
theorem okElD_ok {t e : TypeId} {i : TypeInfo} {z : Value} {sz bytes : Nat} (h : El P t e i z sz bytes) {zero : List D} (hz : okElD P t zero = true) : ∀ w W, RDs w W zero z.cells.toList := by
  unfold okElD at hz
  rw [h.under] at hz
  simp only at hz
  unfold okZeroD at hz
  rw [h.info] at hz
  simp only [h.zero, Bool.and_eq_true] at hz
  exact fun w W => chkDs_ok hz.1

theorem op_mkro {t : TypeId} {sz bytes : Nat} {zero : List D} {x y : Operand} {xs : List V} (ho : o.op = .makeSlice t x y) (hk : okEl P t sz bytes = true) (hkz : okElD P t zero = true) (hb : bytes ≤ 65536)
    (hx : RVs w G H xs [ρ x, ρ y]) (hs : HS G H w) : Good P o ρ w G H (act pc base (.mkro sz zero) xs) := by
  obtain ⟨vx, vy, rfl, h1, h2⟩ := RVs2 hx
  obtain ⟨e, i, z, hE⟩ := okEl_ok hk
  have hz := okElD_ok hE hkz
  simp only [act, a2, aMkro]
  refine Good.ret fun r eq => ?_
  split at eq
  · rename_i l c hl hc
    split at eq
    · rename_i hq
      obtain ⟨rfl, hzl, hbig⟩ := hq
      cases eq
      obtain ⟨k, hvx⟩ := asNat_ok hl h1
      obtain ⟨k', hvy⟩ := asNat_ok hc h2
      have hb' : (i.bytes : Int) * (l : Int) ≤ 281474976710656 := by
        have : ((i.bytes : Int) * (l : Int)) = ((l * i.bytes : Nat) : Int) := by rw [Nat.mul_comm]; simp
        rw [this, hE.bytesz]
        have := Nat.mul_le_mul hbig hb
        omega
      have hrun := run_make (P := P) w t e i z hE.under hE.info hE.zero k k' l l (by omega) (by omega) hb' (by omega)
      simp only [Int.toNat_natCast] at hrun
      rw [hE.size] at hrun
      have hcells : (madeCells z.cells (l * sz)).toList = (List.replicate l z.cells.toList).flatten := by
        rw [← hE.cells]; exact zeros_eq z.cells l
      have := list_new hs (C := madeCells z.cells (l * sz)) (t := e) (fr := (0, 0)) (rows := List.replicate l zero) (sz := sz) (vs := (madeCells z.cells (l * sz)).toList)
        (fun r hr => by rw [(List.mem_replicate.1 hr).2]; exact hzl) (by rw [hcells]; exact RDs_flat (hz _ _) l) (by rw [hcells]; exact Ones_flat hE.ones l) (fun i v h => by simpa using h) (cap := l) (by simp)
      rw [List.length_replicate] at this
      refine Does.value (w' := w.alloc (.cells (madeCells z.cells (l * sz)) e)) (v := .slice (some ⟨w.heap.size, 0, none⟩) l l) (by simp [execOp, ho, hvx, hvy, hrun]) ⟨⟨G.σ, upd G.W w.heap.size none⟩, ?_, hs.mint _ none, T.mint hs _ none⟩
      simp only [RV]
      exact this
    · cases eq
  · cases eq

/-! ### What is appended, copied -/
structure Src (P : Program) (w : World) (sz n : Nat) (v : Value) (news : List Value) : Prop where
  len : ∀ w', (Builtin.lenOf v).run P w' = .ok n w'
  cells : ∀ w', w'.heap = w.heap → ∀ k, k ≤ n → (Builtin.firstCells sz k v).run P w' = .ok (news.take (k * sz)).toArray w'
  size : news.length = n * sz
  ones : Ones news

theorem cell_heap {w w' : World} (h : w'.heap = w.heap) (a : Addr) : w'.cell? a = w.cell? a := by simp [World.cell?, h]

theorem Src.slice {sz n cap : Nat} {A : Option Addr} {g p : Nat} {news : List Value} (hA : 0 < n → A = some ⟨g, p, none⟩) (hsz : news.length = n * sz) (hc : ∀ (i : Nat) (v : Value), news[i]? = some v → w.cell? ⟨g, p + i, none⟩ = some v) (ho : Ones news) : Src P w sz n (.slice A n cap) news where
  len w' := rfl
  size := hsz
  ones := ho
  cells w' hw k hk := by
    rcases Nat.eq_zero_or_pos k with h0 | h0
    · subst h0
      cases A <;> simp [Builtin.firstCells, loadCells, loadCellsFrom]
    · rw [hA (by omega)]
      have hle := Nat.mul_le_mul_right sz hk
      refine run_firstCells_some w' sz k ⟨g, p, none⟩ n cap (news.take (k * sz)) (by rw [List.length_take]; omega) (fun j v hj => ?_)
      rw [List.getElem?_take] at hj
      split at hj
      · rw [add_lit', cell_heap hw]; exact hc j v hj
      · cases hj

theorem Src.rows {sz : Nat} {rows : List (List D)} {v : Value} (hr : RD w G.W (.list rows) v) (hsz : ∀ r, r ∈ rows → r.length = sz) : ∃ news, Src P w sz rows.length v news ∧ RDs w G.W rows.flatten news := by
  simp only [RD] at hr
  obtain ⟨A, cap, rfl, hcap, hn⟩ := hr
  by_cases h0 : rows = []
  · subst h0
    refine ⟨[], Src.slice (g := 0) (p := 0) (fun h => by simp at h) (by simp) (fun i v h => by simp at h) (fun u hu => by cases hu), by simp [RDs_nil]⟩
  · obtain ⟨g, p, sz', rfl, hR⟩ := hn h0
    have key : ∀ (rows : List (List D)) (p : Nat), RDrows w G.W g sz' p rows → ∃ news, news.length = rows.length * sz' ∧ RDs w G.W rows.flatten news ∧ Ones news ∧ ∀ (i : Nat) (v : Value), news[i]? = some v → w.cell? ⟨g, p + i, none⟩ = some v := by
      intro rows
      induction rows with
      | nil => intro p _; exact ⟨[], by simp, by simp [RDs_nil], (fun u hu => by cases hu), (fun i v h => by simp at h)⟩
      | cons r rs ih =>
        intro p h
        simp only [RDrows] at h
        obtain ⟨h1, h2, h3⟩ := h
        obtain ⟨vs, hl, hd, hg⟩ := RDcells_get h2
        obtain ⟨news, e1, e2, e3, e4⟩ := ih _ h3
        refine ⟨vs ++ news, by rw [List.length_append, hl, h1, e1, List.length_cons, Nat.add_mul]; omega, ?_, Ones.append (fun u hu => ?_) e3, fun i v hi => ?_⟩
        · rw [List.flatten_cons]; exact RDs_append hd e2
        · obtain ⟨i, hi⟩ := List.mem_iff_getElem?.1 hu
          exact (hg i u hi).2.2
        · rw [List.getElem?_append] at hi
          split at hi
          · exact (hg i v hi).1
          · rename_i hlt
            have := e4 _ v hi
            rwa [show p + sz' + (i - vs.length) = p + i by omega] at this
    obtain ⟨news, e1, e2, e3, e4⟩ := key rows p hR
    have hs : sz' = sz := by
      cases rows with
      | nil => exact absurd rfl h0
      | cons r rs =>
        simp only [RDrows] at hR
        rw [← hR.1]; exact hsz r (by simp)
    subst hs
    exact ⟨news, Src.slice (fun _ => rfl) e1 e4 e3, e2⟩

theorem Src.str {s : List UInt8} : Src P w 1 s.length (.string ⟨s.toArray⟩) (s.map fun b => .int .u8 b.toNat) where
  len w' := rfl
  size := by simp
  ones u hu := by obtain ⟨b, _, rfl⟩ := List.mem_map.1 hu; rfl
  cells w' _ k hk := by
    simp only [Builtin.firstCells, Sem.run_pure]
    congr 1
    apply Array.ext'
    simp [List.extract_eq_take_drop, List.map_take]

theorem Src.mem (hs : HS G H w) {b ver sz off len : Nat} {cells : List V} (hb : getB H b = .mem ver cells) {v : Value} (hv : RV w G H (.arr b ver sz off len) v) (hfit : off + len * sz ≤ cells.length) :
    ∃ vs, Src P w sz len v (vs.take (len * sz)) ∧ RVs w G H (cells.drop off) vs ∧ Ones vs := by
  simp only [RV] at hv
  obtain ⟨_, _, hm⟩ := hv
  obtain ⟨a, cap, cs, rfl, hlc, ha, hab, hh, hcap⟩ := (hm _ _ hb).2 rfl
  obtain ⟨cs', hh', hl, hW, hr, hone⟩ := BR.read hs hb
  obtain rfl := hh.uniq hh'
  refine ⟨(cs.toList.take cells.length).drop off, Src.slice (g := G.σ b) (p := off) (fun h => by rw [ha (by omega)]) (by simp; omega) (fun i v hi => ?_) ((hone.drop _).take _), hr.drop off, hone.drop _⟩
  rw [hh.cell]
  rw [List.getElem?_take] at hi
  split at hi
  · rw [List.getElem?_drop, List.getElem?_take] at hi
    split at hi
    · simpa using hi
    · cases hi
  · cases hi
end
end Go.Vm
