/- Operations of the machine: append. -/
import Derived.Test.YtjffpbodflkehaaGreatDoorOVmOpsH
set_option linter.unusedVariables false
set_option linter.unusedSimpArgs false
namespace Go.Vm
open Go.RowKit

section
variable {P : Program} {o : Oper} {ρ : Operand → Value} {w : World} {G : Gh} {H : List Blk} {pc : Nat → List D → Option D} {base : Nat}

/-- The second type of an append: a slice or a string. -/
def okTail (P : Program) (u : TypeId) : Bool :=
  match P.underlying u with
  | some (.slice _) => true
  | some .string => true
  | _ => false
theorem okTail_ok {u : TypeId} (h : okTail P u = true) : (∃ x, P.underlying u = some (.slice x)) ∨ P.underlying u = some .string := by
  unfold okTail at h
  split at h
  · exact .inl ⟨_, by assumption⟩
  · exact .inr (by assumption)
  · cases h

/-- append where there is room. -/
theorem run_app_room {t u ty e : TypeId} {i : TypeInfo} {z : Value} {sz bytes : Nat} (hE : El P t e i z sz bytes) (hu : okTail P u = true) {y : Value} {n : Nat} {news : List Value} (hy : Src P w sz n y news)
    {base : Option Addr} {sLen sCap : Nat} (hroom : sLen + n ≤ sCap) :
    (Builtin.append_ #[t, u] ty #[.slice base sLen sCap, y]).run P w =
      (match base with
       | some a => (storeCells (a.add (sLen * sz)) news).run P w
       | none => .ok () w).andThen fun _ w' => .ok (.slice base (sLen + n) sCap) w' := by
  have hc := hy.cells w rfl n (Nat.le_refl _)
  rw [show news.take (n * sz) = news from by rw [← hy.size]; exact List.take_length] at hc
  have hl := hy.len w
  rcases okTail_ok hu with ⟨x, hd⟩ | hd
  · cases base with
    | none => simp [Builtin.append_, run_underlying hE.under, hE.sizeOf, run_underlying hd, hl, hroom, hc]
    | some a => simp [Builtin.append_, run_underlying hE.under, hE.sizeOf, run_underlying hd, hl, hroom, hc]
  · cases base with
    | none => simp [Builtin.append_, run_underlying hE.under, hE.sizeOf, run_underlying hd, hl, hroom, hc]
    | some a => simp [Builtin.append_, run_underlying hE.under, hE.sizeOf, run_underlying hd, hl, hroom, hc]

/-- append where a new row is taken. -/
theorem run_app_grow {t u ty e : TypeId} {i : TypeInfo} {z : Value} {sz bytes : Nat} (hE : El P t e i z sz bytes) (hu : okTail P u = true) {y : Value} {n : Nat} {news old : List Value} (hy : Src P w sz n y news)
    {base : Option Addr} {sLen sCap : Nat} (hgrow : sCap < sLen + n) (ho : ∀ w', w'.heap = w.heap → (Builtin.firstCells sz sLen (.slice base sLen sCap)).run P w' = .ok old.toArray w') (hb : (sLen + n) * bytes ≤ maxBytes) :
    (Builtin.append_ #[t, u] ty #[.slice base sLen sCap, y]).run P w =
      .ok (.slice (some ⟨w.heap.size, 0, none⟩) (sLen + n) (grownCap w (sLen + n) sCap e))
        (w.drew.alloc (.cells (old.toArray ++ news.toArray ++ Builtin.zeroCells z.cells (grownCap w (sLen + n) sCap e - (sLen + n))) e)) := by
  have hc := hy.cells w.drew rfl n (Nat.le_refl _)
  rw [show news.take (n * sz) = news from by rw [← hy.size]; exact List.take_length] at hc
  have hl := hy.len w
  have hold := ho w.drew rfl
  have hne : ¬ (sLen + n ≤ sCap) := by omega
  have hfits := growslice_fits hgrow (bytes := bytes) hb
  have h48 : ¬ (281474976710656 < Builtin.nextslicecap (sLen + n) sCap * i.bytes) := by rw [hE.bytesz]; omega
  have hb0 : i.bytes ≠ 0 := by rw [hE.bytesz]; have := hE.pos; omega
  have hinf : (typeInfo e).run P w = .ok i w := by simp [typeInfo, hE.info]
  have hinf' : (typeInfo e).run P w.drew = .ok i w.drew := by simp [typeInfo, hE.info]
  have hch : (choose (.appendCap (sLen + n) sCap e)).run P w = .ok (grownCap w (sLen + n) sCap e) w.drew := by
    simp [Question.forced, grownCap]
  rcases okTail_ok hu with ⟨x, hd⟩ | hd
  · simp [Builtin.append_, run_underlying hE.under, hE.sizeOf, run_underlying hd, hl, hne, hc, hold, hinf, hinf', hch, h48, hb0, hE.zeroValue, newRow, -run_choose, -List.append_toArray, Array.append_assoc]
  · simp [Builtin.append_, run_underlying hE.under, hE.sizeOf, run_underlying hd, hl, hne, hc, hold, hinf, hinf', hch, h48, hb0, hE.zeroValue, newRow, -run_choose, -List.append_toArray, Array.append_assoc]

/-! ### A block that moves to a new block of the world -/
theorem Ext.realloc (hs : HS G H w) {b : Nat} (ob : Obj) (blk : Blk) (m : Option Nat) (hnd : blk ≠ .dead)
    (hmem : ∀ ver' cells', blk = .mem ver' cells' → ∃ ver cells, getB H b = .mem ver cells ∧ ver < ver')
    (htok : ∀ sz n', blk = .tok sz n' → ∃ n, getB H b = .tok sz n ∧ n < n')
    (hmap : ∀ es', blk ≠ .map es') :
    Ext w G H (w.alloc ob) ⟨upd G.σ b w.heap.size, upd G.W w.heap.size m⟩ (setB H b blk) where
  keep := Keep.alloc w G.W ob m
  live c hc := by
    rw [getB_setB]; split
    · exact hnd
    · exact hc
  mem c ver' cells' hc he := by
    rw [getB_setB] at he
    by_cases h : c = b
    · subst h
      rw [if_pos rfl] at he
      obtain ⟨ver, cells, e, l⟩ := hmem _ _ he
      exact ⟨ver, cells, e, by omega, fun e => by omega⟩
    · rw [if_neg h] at he
      exact ⟨ver', cells', he, Nat.le_refl _, fun _ => ⟨upd_other _ _ _ _ h, fun cs hcs => ⟨cs, hcs.of_heap (heap_lt_old hcs.lt), rfl⟩⟩⟩
  tok c sz n' hc he := by
    rw [getB_setB] at he
    by_cases h : c = b
    · subst h
      rw [if_pos rfl] at he
      obtain ⟨n, e, l⟩ := htok _ _ he
      exact ⟨n, e, by omega, fun e => by omega⟩
    · rw [if_neg h] at he
      exact ⟨n', he, Nat.le_refl _, fun _ => ⟨upd_other _ _ _ _ h, fun cs hcs => ⟨cs, hcs.of_heap (heap_lt_old hcs.lt), rfl⟩⟩⟩
  map c es' hc he := by
    rw [getB_setB] at he
    by_cases h : c = b
    · subst h
      rw [if_pos rfl] at he
      exact absurd he (hmap es')
    · rw [if_neg h] at he
      exact ⟨es', he, upd_other _ _ _ _ h⟩

theorem realloc {b : Nat} (hs : HS G H w) {ob : Obj} {blk : Blk} {m : Option Nat} (hx : Ext w G H (w.alloc ob) ⟨upd G.σ b w.heap.size, upd G.W w.heap.size m⟩ (setB H b blk))
    (hb : BR (w.alloc ob) ⟨upd G.σ b w.heap.size, upd G.W w.heap.size m⟩ (setB H b blk) b blk) :
    HS ⟨upd G.σ b w.heap.size, upd G.W w.heap.size m⟩ (setB H b blk) (w.alloc ob) ∧ T w G H (w.alloc ob) ⟨upd G.σ b w.heap.size, upd G.W w.heap.size m⟩ (setB H b blk) := by
  refine ⟨hs.turn hx hb (fun c hc => upd_other _ _ _ _ hc) (fun c hc ha => ⟨heap_lt_old (hs.lt c ha), upd_other _ _ _ _ ?_⟩) (fun c hc ha _ => ?_), ⟨hx, rfl, rfl, rfl, by simp, fun c hc => ?_, fun g hg _ => ⟨heap_lt_old hg, upd_other _ _ _ _ (by omega)⟩⟩⟩
  · have := hs.lt c ha; omega
  · show upd G.σ b w.heap.size b ≠ _
    rw [upd_same]; have := hs.lt c ha; omega
  · rw [getB_setB] at hc
    by_cases h1 : c = b
    · subst h1; right; show _ ≤ upd G.σ c _ c; rw [upd_same]; exact Nat.le_refl _
    · rw [if_neg h1] at hc; exact .inl ⟨hc, upd_other _ _ _ _ h1⟩

theorem srcRows_run {sz : Nat} {y : V} {v : Value} {k : List (List D) → Eff} {r : V} {H' : List Blk} (h : (srcRows sz y k).run H = some (r, H')) (hv : RV w G H y v) (hs : HS G H w) :
    ∃ rows news, Src P w sz rows.length v news ∧ RDs w G.W rows.flatten news ∧ (∀ x, x ∈ rows → x.length = sz) ∧ (k rows).run H = some (r, H') := by
  have hrows : ∀ rows, rowsOf y = some rows → (∀ x, x ∈ rows → x.length = sz) → ∃ news, Src P w sz rows.length v news ∧ RDs w G.W rows.flatten news := fun rows hr hsz => Src.rows (rowsOf_ok hr hv) hsz
  unfold srcRows at h
  split at h
  · rename_i b ver sz' off len
    simp only [Eff.run] at h
    split at h
    · rename_i ver' cells hb
      split at h
      · rename_i hc
        obtain ⟨rfl, rfl, hfit⟩ := hc
        split at h
        · rename_i rows hr
          obtain ⟨vs, h1, h2, _⟩ := Src.mem (P := P) hs hb hv hfit
          obtain ⟨e1, e2, e3, e4⟩ := rowsIn_ok hr h2
          exact ⟨rows, _, by rw [e1]; exact h1, e3, e2, h⟩
        · simp only [Eff.run] at h; cases h
      · simp only [Eff.run] at h; cases h
    · simp only [Eff.run] at h; cases h
  · rename_i s
    split at h
    · rename_i h1
      subst h1
      have hp := RVstr hv
      subst hp
      refine ⟨s.map fun b => [.int .u8 b.toNat], s.map fun b => .int .u8 b.toNat, by rw [List.length_map]; exact Src.str, ?_, by simp, h⟩
      clear h hv hrows
      induction s with
      | nil => simp [RDs_nil]
      | cons b s ih =>
        simp only [List.map_cons, List.flatten_cons, List.singleton_append]
        exact RDs_cons.2 ⟨_, _, rfl, by simp only [RD], ih⟩
    · simp only [Eff.run] at h; cases h
  · split at h
    · rename_i rows hr
      split at h
      · rename_i hall
        have hsz : ∀ x, x ∈ rows → x.length = sz := RD_sized (rowsOf_ok hr hv) hall
        obtain ⟨news, h1, h2⟩ := hrows rows hr hsz
        exact ⟨rows, news, h1, h2, hsz, h⟩
      · simp only [Eff.run] at h; cases h
    · simp only [Eff.run] at h; cases h

theorem RDrows_append {W : Nat → Option Nat} {g sz : Nat} : ∀ {rows rs : List (List D)} {p : Nat}, RDrows w W g sz p rows → RDrows w W g sz (p + rows.length * sz) rs → RDrows w W g sz p (rows ++ rs)
  | [], rs, p, _, h => by simpa using h
  | r :: rows, rs, p, h1, h2 => by
    simp only [RDrows] at h1
    simp only [List.cons_append, RDrows]
    refine ⟨h1.1, h1.2.1, RDrows_append h1.2.2 ?_⟩
    rw [show p + sz + rows.length * sz = p + (r :: rows).length * sz by rw [List.length_cons, Nat.add_mul]; omega]
    exact h2

theorem flat_len {sz : Nat} {rows : List (List D)} (h : ∀ r, r ∈ rows → r.length = sz) : rows.flatten.length = rows.length * sz := by
  induction rows with
  | nil => simp
  | cons y ys ih =>
    rw [List.flatten_cons, List.length_append, ih (fun z hz => h z (by simp [hz])), h y (by simp), List.length_cons, Nat.add_mul]
    omega

/-- A row of the world's own, with a token: rows of data, then room. -/
theorem vec_new {b sz m : Nat} {rows : List (List D)} {vs : List Value} {C : Array Value} {ty : TypeId} {cap : Nat} (hr : ∀ r, r ∈ rows → r.length = sz) (hd : RDs w G.W rows.flatten vs) (hone : Ones vs) (hm : rows.length = m)
    (hC : ∀ (i : Nat) (v : Value), vs[i]? = some v → C[i]? = some v) (hcap : m ≤ cap) (hz : C.size = cap * sz)
    (hx : Ext w G H (w.alloc (.cells C ty)) ⟨upd G.σ b w.heap.size, upd G.W w.heap.size (some (m * sz))⟩ (setB H b (.tok sz m))) :
    BR (w.alloc (.cells C ty)) ⟨upd G.σ b w.heap.size, upd G.W w.heap.size (some (m * sz))⟩ (setB H b (.tok sz m)) b (.tok sz m) ∧
    RV (w.alloc (.cells C ty)) ⟨upd G.σ b w.heap.size, upd G.W w.heap.size (some (m * sz))⟩ (setB H b (.tok sz m)) (.vec b rows) (.slice (some ⟨w.heap.size, 0, none⟩) m cap) := by
  have hh : Holds (w.alloc (.cells C ty)) w.heap.size C := ⟨ty, heap_alloc_new w _⟩
  have hmul := Nat.mul_le_mul_right sz hcap
  constructor
  · refine ⟨C, ?_, by omega, ?_⟩
    · show Holds _ (upd G.σ b w.heap.size b) C
      rw [upd_same]; exact hh
    · show upd G.W w.heap.size _ (upd G.σ b w.heap.size b) = _
      rw [upd_same, upd_same]
  · simp only [RV]
    refine ⟨?_, by rw [getB_setB, if_pos rfl]; simp, fun sz' n he => ?_⟩
    · simp only [RD]
      refine ⟨_, _, by rw [hm], by omega, fun _ => ⟨w.heap.size, 0, sz, rfl, ?_⟩⟩
      have hvl := hd.length
      rw [flat_len hr, hm] at hvl
      refine RDrows_of hr (RDs.keep hx.keep _ _ hd) (fun i v hv => ⟨?_, fun q hq => ?_, hone.get hv⟩)
      · rw [Nat.zero_add, cell_new]; exact hC i v hv
      · have hq : upd G.W w.heap.size (some (m * sz)) w.heap.size = some q := hq
        rw [upd_same] at hq
        cases hq
        have := (List.getElem?_eq_some_iff.1 hv).1
        omega
    · rw [getB_setB, if_pos rfl] at he
      cases he
      refine ⟨by omega, fun _ => ⟨cap, C, by rw [upd_same], by rw [upd_same]; exact hh, hz, hr⟩⟩

theorem grow_size {z : Value} {sz n k : Nat} {e : TypeId} {l : List Value} (hz : z.cells.size = sz) (hl : l.length = n * sz) {need : Nat} (hn : need = n) {old : Nat} :
    (l.toArray ++ Builtin.zeroCells z.cells (grownCap w need old e - need)).size = grownCap w need old e * sz := by
  subst hn
  have := grownCap_ge w need old e
  rw [Array.size_append, List.size_toArray, size_zeroCells, hz, hl, ← Nat.add_mul]
  congr 1; omega

/-- append where a new row is taken: behind an empty slice, or one whose row has no room. -/
theorem app_grow {t u e : TypeId} {i : TypeInfo} {z : Value} {sz bytes : Nat} (hE : El P t e i z sz bytes) (hu : okTail P u = true) {x y : Operand} {base' : Option Addr} {rows new : List (List D)} {old news : List Value} {c q : Nat}
    (hrun : ∀ {v : Value} {w' : World}, (Builtin.append_ #[t, u] o.type #[ρ x, ρ y]).run P w = .ok v w' → (execOp ρ o).run P w = .ok (.value v) w')
    (hp : ρ x = .slice base' rows.length c) (hc : c < rows.length + new.length)
    (hold : Src P w sz rows.length (ρ x) old) (hod : RDs w G.W rows.flatten old) (hrs : ∀ r, r ∈ rows → r.length = sz)
    (hsrc : Src P w sz new.length (ρ y) news) (hd : RDs w G.W new.flatten news) (hsz : ∀ r, r ∈ new → r.length = sz)
    (hby : (rows.length + new.length) * bytes ≤ maxBytes) (hs : HS G H w)
    (hq : getB H q = .dead ∨ ∃ n, getB H q = .tok sz n ∧ n < rows.length + new.length) :
    Does P (execOp ρ o) w (Post w G H (setB H q (.tok sz (rows.length + new.length))) (.vec q (rows ++ new))) := by
  have hrn := run_app_grow (P := P) (w := w) (ty := o.type) hE hu hsrc hc (fun w' hw => by
    have := hold.cells w' hw rows.length (Nat.le_refl _)
    rw [← hold.size, List.take_length] at this
    rw [← hp]; exact this) hby
  rw [← hp] at hrn
  have hcap := grownCap_ge w (rows.length + new.length) c e
  have hzs : (old.toArray ++ news.toArray ++ Builtin.zeroCells z.cells (grownCap w (rows.length + new.length) c e - (rows.length + new.length))).size = grownCap w (rows.length + new.length) c e * sz := by
    have hl : (old ++ news).length = (rows.length + new.length) * sz := by rw [List.length_append, hold.size, hsrc.size, Nat.add_mul]
    have := grow_size (w := w) (k := 0) (need := rows.length + new.length) (old := c) (e := e) hE.cells hl rfl
    simpa using this
  have hod' : RDs w.drew G.W (rows ++ new).flatten (old ++ news) := by
    rw [List.flatten_append]
    exact RDs_append (RDs.keep (Ext.drew w G H).keep _ _ hod) (RDs.keep (Ext.drew w G H).keep _ _ hd)
  have hrs' : ∀ r, r ∈ rows ++ new → r.length = sz := fun r hr => by
    rcases List.mem_append.1 hr with hr | hr
    · exact hrs r hr
    · exact hsz r hr
  have hC : ∀ (j : Nat) (v : Value), (old ++ news)[j]? = some v → (old.toArray ++ news.toArray ++ Builtin.zeroCells z.cells (grownCap w (rows.length + new.length) c e - (rows.length + new.length)))[j]? = some v := fun j v hj => by
    have hlt := (List.getElem?_eq_some_iff.1 hj).1
    rw [Array.getElem?_append_left (by simpa using hlt)]
    simpa using hj
  have hm : (rows ++ new).length = rows.length + new.length := List.length_append
  have fin : ∀ hx : Ext w.drew G H (w.drew.alloc (.cells (old.toArray ++ news.toArray ++ Builtin.zeroCells z.cells (grownCap w (rows.length + new.length) c e - (rows.length + new.length))) e)) ⟨upd G.σ q w.drew.heap.size, upd G.W w.drew.heap.size (some ((rows.length + new.length) * sz))⟩ (setB H q (.tok sz (rows.length + new.length))),
      (BR (w.drew.alloc (.cells (old.toArray ++ news.toArray ++ Builtin.zeroCells z.cells (grownCap w (rows.length + new.length) c e - (rows.length + new.length))) e)) ⟨upd G.σ q w.drew.heap.size, upd G.W w.drew.heap.size (some ((rows.length + new.length) * sz))⟩ (setB H q (.tok sz (rows.length + new.length))) q (.tok sz (rows.length + new.length)) →
        HS ⟨upd G.σ q w.drew.heap.size, upd G.W w.drew.heap.size (some ((rows.length + new.length) * sz))⟩ (setB H q (.tok sz (rows.length + new.length))) (w.drew.alloc (.cells (old.toArray ++ news.toArray ++ Builtin.zeroCells z.cells (grownCap w (rows.length + new.length) c e - (rows.length + new.length))) e)) ∧
        T w.drew G H (w.drew.alloc (.cells (old.toArray ++ news.toArray ++ Builtin.zeroCells z.cells (grownCap w (rows.length + new.length) c e - (rows.length + new.length))) e)) ⟨upd G.σ q w.drew.heap.size, upd G.W w.drew.heap.size (some ((rows.length + new.length) * sz))⟩ (setB H q (.tok sz (rows.length + new.length)))) →
      Does P (execOp ρ o) w (Post w G H (setB H q (.tok sz (rows.length + new.length))) (.vec q (rows ++ new))) := fun hx hst => by
    obtain ⟨hb, hv⟩ := vec_new (w := w.drew) (G := G) (H := H) (b := q) (ty := e) hrs' hod' (Ones.append hold.ones hsrc.ones) hm hC hcap hzs hx
    obtain ⟨g1, g2⟩ := hst hb
    exact Does.value (hrun hrn) ⟨_, hv, g1, (T.drew w G H).trans g2⟩
  rcases hq with hq | ⟨n, hq, hn⟩
  · refine fin (Ext.alloc hs.drew.lt hq _ _ _) (fun hb => ⟨hs.drew.alloc hq _ _ _ hb, T.alloc hs.drew.lt hq _ _ _⟩)
  · have hx := Ext.realloc hs.drew (b := q) (.cells (old.toArray ++ news.toArray ++ Builtin.zeroCells z.cells (grownCap w (rows.length + new.length) c e - (rows.length + new.length))) e) (.tok sz (rows.length + new.length)) (some ((rows.length + new.length) * sz))
      (by simp) (fun _ _ e => by cases e) (fun _ _ e => by cases e; exact ⟨n, hq, hn⟩) (fun _ e => by cases e)
    exact fin hx (fun hb => realloc hs.drew hx hb)

/-- append where there is room: of a list whose token says so. -/
theorem app_room {t u e : TypeId} {i : TypeInfo} {z : Value} {sz bytes : Nat} (hE : El P t e i z sz bytes) (hu : okTail P u = true) {x y : Operand} {rows new : List (List D)} {news : List Value} {cap q : Nat} {cs : Array Value}
    (hrun : ∀ {v : Value} {w' : World}, (Builtin.append_ #[t, u] o.type #[ρ x, ρ y]).run P w = .ok v w' → (execOp ρ o).run P w = .ok (.value v) w')
    (hp : ρ x = .slice (some ⟨G.σ q, 0, none⟩) rows.length cap) (hroom : rows.length + new.length ≤ cap) (hrd : RD w G.W (.list rows) (ρ x)) (hrs : ∀ r, r ∈ rows → r.length = sz)
    (hh : Holds w (G.σ q) cs) (hcs : cs.size = cap * sz)
    (hsrc : Src P w sz new.length (ρ y) news) (hd : RDs w G.W new.flatten news) (hsz : ∀ r, r ∈ new → r.length = sz) (hs : HS G H w)
    (hq : getB H q = .tok sz rows.length) :
    Does P (execOp ρ o) w (Post w G H (setB H q (.tok sz (rows.length + new.length))) (.vec q (rows ++ new))) := by
  have hrn := run_app_room (P := P) (w := w) (ty := o.type) hE hu hsrc (base := some ⟨G.σ q, 0, none⟩) hroom
  rw [← hp] at hrn
  have hmul := Nat.mul_le_mul_right sz hroom
  rw [Nat.add_mul] at hmul
  have hfit : rows.length * sz + news.length ≤ cs.size := by rw [hsrc.size, hcs]; exact hmul
  have hst := storeCells_run (P := P) (w := w) hh hfit (fun v hv => hsrc.ones v hv)
  simp only [add_lit', Nat.zero_add, hst, Result.andThen_ok] at hrn
  have hw := Wrote.setRow hh (spliceA cs (rows.length * sz) news)
  have hb := hs.blk q
  rw [hq] at hb
  obtain ⟨cs0, hh0, _, hW⟩ := hb
  have hact : (getB H q).act := by rw [hq]; trivial
  have hx : Ext w G H (w.setRow (G.σ q) (spliceA cs (rows.length * sz) news)) ⟨G.σ, upd G.W (G.σ q) (some ((rows.length + new.length) * sz))⟩ (setB H q (.tok sz (rows.length + new.length))) :=
    Ext.wrote hw hh (spliceA_size hfit) hW (Nat.mul_le_mul_right sz (by omega)) (fun j hj => by rw [spliceA_get hfit, if_neg (by omega)]) (by simp)
      (fun _ _ e => by cases e) (fun _ _ e => by cases e; exact ⟨_, hq, by omega⟩) (fun _ e => by cases e)
  have hbr : BR (w.setRow (G.σ q) (spliceA cs (rows.length * sz) news)) ⟨G.σ, upd G.W (G.σ q) (some ((rows.length + new.length) * sz))⟩ (setB H q (.tok sz (rows.length + new.length))) q (.tok sz (rows.length + new.length)) :=
    ⟨_, hw.here, by rw [spliceA_size hfit, hcs]; exact Nat.mul_le_mul_right sz hroom, upd_same _ _ _⟩
  refine Does.value (hrun hrn) ⟨_, ?_, hs.wrote hw hact hx hbr, T.wrote hw hact hx⟩
  have hall : ∀ r, r ∈ rows ++ new → r.length = sz := fun r hr => by
    rcases List.mem_append.1 hr with hr | hr
    · exact hrs r hr
    · exact hsz r hr
  have hlen : (rows ++ new).length = rows.length + new.length := List.length_append
  simp only [RV]
  refine ⟨?_, by rw [getB_setB, if_pos rfl]; simp, fun sz' n he => ?_⟩
  · simp only [RD]
    refine ⟨_, _, by rw [hlen], by rw [hlen]; exact hroom, fun _ => ⟨G.σ q, 0, sz, rfl, ?_⟩⟩
    have h1 := RD.keep hx.keep _ _ hrd
    rw [hp] at h1
    simp only [RD] at h1
    obtain ⟨A, cap', e1, _, h1⟩ := h1
    cases e1
    refine RDrows_append ?_ ?_
    · by_cases h0 : rows = []
      · subst h0; simp only [RDrows]
      · obtain ⟨g, p, sz0, e2, h2⟩ := h1 h0
        cases e2
        have : sz0 = sz := by
          cases rows with
          | nil => exact absurd rfl h0
          | cons r rs => simp only [RDrows] at h2; rw [← h2.1]; exact hrs r (by simp)
        subst this
        exact h2
    · refine RDrows_of hsz (RDs.keep hx.keep _ _ hd) (fun j v hj => ⟨?_, fun m hm => ?_, hsrc.ones.get hj⟩)
      · rw [hw.here.cell, spliceA_get hfit]
        have hjl := (List.getElem?_eq_some_iff.1 hj).1
        rw [if_pos (by omega), Nat.zero_add, Nat.add_sub_cancel_left]; exact hj
      · have hm : upd G.W (G.σ q) (some ((rows.length + new.length) * sz)) (G.σ q) = some m := hm
        rw [upd_same] at hm
        cases hm
        have hjl := (List.getElem?_eq_some_iff.1 hj).1
        rw [hsrc.size] at hjl
        rw [Nat.add_mul]; omega
  · rw [getB_setB, if_pos rfl] at he
    cases he
    exact ⟨by omega, fun _ => ⟨cap, _, rfl, hw.here, by rw [spliceA_size hfit, hcs], hall⟩⟩

theorem op_app {t u : TypeId} {b sz bytes : Nat} {x y : Operand} {xs : List V} (ho : o.op = .call { callee := .builtin .append, args := #[x, y], argTypes := #[t, u] }) (hk : okEl P t sz bytes = true) (hu : okTail P u = true)
    (hx : RVs w G H xs [ρ x, ρ y]) (hs : HS G H w) : Good P o ρ w G H (act pc base (.app b sz bytes) xs) := by
  obtain ⟨vx, vy, rfl, h1, h2⟩ := RVs2 hx
  obtain ⟨e, i, z, hE⟩ := okEl_ok hk
  simp only [act, a2, aApp]
  intro r H' eq
  have q0 := srcRows_run (P := P) eq h2 hs
  clear eq
  obtain ⟨new, news, hsrc, hd, hsz, eq⟩ := q0
  have hrun : ∀ {v : Value} {w' : World}, (Builtin.append_ #[t, u] o.type #[ρ x, ρ y]).run P w = .ok v w' → (execOp ρ o).run P w = .ok (.value v) w' := fun h => by
    simp [execOp, ho, resolve, invoke, builtin, h]
  -- nothing appended to an empty slice, or to one without room
  have hsame : ∀ {A : Option Addr} {n c : Nat}, ρ x = .slice A n c → new = [] → n ≤ c → Does P (execOp ρ o) w (Post w G H H vx) := fun {A n c} hp h0 hle => by
    subst h0
    have hn : news = [] := List.eq_nil_of_length_eq_zero (by rw [hsrc.size]; simp)
    subst hn
    have := run_app_room (P := P) (w := w) (ty := o.type) hE hu hsrc (base := A) (sLen := n) (sCap := c) (by simpa using hle)
    rw [← hp] at this
    refine Does.value (hrun (v := ρ x) (w' := w) ?_) (Post.ret h1 hs)
    rw [this, hp]
    cases A <;> simp [storeCells]
  have hfirst : ∀ {A : Option Addr}, ρ x = .slice A 0 0 → new ≠ [] → new.length * bytes ≤ maxBytes → ∀ {q : Nat}, getB H q = .dead → Does P (execOp ρ o) w (Post w G H (setB H q (.tok sz new.length)) (.vec q new)) := fun {A} hp h0 hby q hq => by
    have h0' : 0 < new.length := List.length_pos_iff.2 h0
    have := app_grow (P := P) (o := o) (ρ := ρ) (G := G) (H := H) (rows := []) (old := []) (q := q) hE hu hrun (by simpa using hp) (by simpa using h0')
      (by rw [hp]; exact Src.slice (g := 0) (p := 0) (fun h => by simp at h) (by simp) (fun j v hj => by simp at hj) (fun u hu => by cases hu)) (by simp [RDs_nil]) (fun r hr => by cases hr) hsrc hd hsz (by simpa using hby) hs (.inl hq)
    simpa using this
  split at eq
  · rename_i q rows
    simp only [Eff.run, Option.map_eq_some_iff] at eq
    obtain ⟨⟨blk, v⟩, eq, e1⟩ := eq
    simp only [Prod.mk.injEq] at e1
    obtain ⟨rfl, rfl⟩ := e1
    split at eq
    · rename_i sz' n hb
      split at eq
      · rename_i hc
        obtain ⟨rfl, rfl, hby⟩ := hc
        simp only [Option.some.injEq, Prod.mk.injEq] at eq
        obtain ⟨rfl, rfl⟩ := eq
        have hv := h1
        simp only [RV] at hv
        obtain ⟨hrd, _, hv⟩ := hv
        obtain ⟨_, hv⟩ := hv _ _ hb
        obtain ⟨cap, cs, hp, hh, hcs, hrs⟩ := hv rfl
        by_cases hroom : rows.length + new.length ≤ cap
        · exact app_room hE hu hrun hp hroom hrd hrs hh hcs hsrc hd hsz hs hb
        · obtain ⟨old, ho1, ho2⟩ := Src.rows (P := P) hrd hrs
          by_cases h0 : new = []
          · subst h0
            have := hrd
            rw [hp] at this
            simp only [RD] at this
            obtain ⟨_, _, e1, h3, _⟩ := this
            cases e1
            simp at hroom; omega
          · have := List.length_pos_iff.2 h0
            exact app_grow hE hu hrun hp (by omega) ho1 ho2 hrs hsrc hd hsz hby hs (.inr ⟨_, hb, by omega⟩)
      · cases eq
    · cases eq
  · have hp : ρ x = .slice none 0 0 := by simpa only [RV] using h1
    split at eq
    · rename_i h0
      simp only [Eff.run, Option.map_some, Option.some.injEq, Prod.mk.injEq] at eq
      obtain ⟨rfl, rfl⟩ := eq
      exact hsame hp (by simpa using h0) (Nat.le_refl _)
    · rename_i h0
      split at eq
      · rename_i hby
        obtain ⟨hd', rfl, rfl⟩ := fresh_put eq
        exact hfirst hp (by simpa using h0) hby hd'
      · simp only [Eff.run] at eq; cases eq
  · have hp : ∃ A, ρ x = .slice A 0 0 := by simpa only [RV] using h1
    obtain ⟨A, hp⟩ := hp
    split at eq
    · rename_i h0
      simp only [Eff.run, Option.map_some, Option.some.injEq, Prod.mk.injEq] at eq
      obtain ⟨rfl, rfl⟩ := eq
      exact hsame hp (by simpa using h0) (Nat.le_refl _)
    · rename_i h0
      split at eq
      · rename_i hby
        obtain ⟨hd', rfl, rfl⟩ := fresh_put eq
        exact hfirst hp (by simpa using h0) hby hd'
      · simp only [Eff.run] at eq; cases eq
  · rename_i rows
    have hv := h1
    simp only [RV] at hv
    obtain ⟨hrd, a, hp⟩ := hv
    split at eq
    · rename_i h0
      simp only [Eff.run, Option.map_some, Option.some.injEq, Prod.mk.injEq] at eq
      obtain ⟨rfl, rfl⟩ := eq
      exact hsame hp (by simpa using h0) (Nat.le_refl _)
    · rename_i h0
      split at eq
      · rename_i hby
        obtain ⟨hsz0, hby⟩ := hby
        obtain ⟨hd', rfl, rfl⟩ := fresh_put eq
        have hrs : ∀ r, r ∈ rows → r.length = sz := RD_sized hrd hsz0
        obtain ⟨old, ho1, ho2⟩ := Src.rows (P := P) hrd hrs
        have := List.length_pos_iff.2 (show new ≠ [] by simpa using h0)
        exact app_grow hE hu hrun hp (by omega) ho1 ho2 hrs hsrc hd hsz hby hs (.inl hd')
      · simp only [Eff.run] at eq; cases eq
  · simp only [Eff.run] at eq; cases eq
end
end Go.Vm
