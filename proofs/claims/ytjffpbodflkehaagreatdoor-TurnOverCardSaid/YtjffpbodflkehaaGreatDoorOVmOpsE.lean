/- Operations of the machine: the greatest, the least; strings and bytes; slices that are built and stay as they are. -/
import Derived.Test.YtjffpbodflkehaaGreatDoorOVmOpsD
import Derived.Laws.IdiomStrings
import Derived.Laws.Tables
set_option linter.unusedVariables false
set_option linter.unusedSimpArgs false
namespace Go.Vm
open Go.RowKit

section
variable {P : Program} {o : Oper} {ρ : Operand → Value} {w : World} {G : Gh} {H : List Blk} {pc : Nat → List D → Option D} {base : Nat}

/-! ### A block of the world that no block of the machine stands for -/
theorem Ext.mint (hs : HS G H w) (ob : Obj) (m : Option Nat) : Ext w G H (w.alloc ob) ⟨G.σ, upd G.W w.heap.size m⟩ H where
  keep := Keep.alloc w G.W ob m
  live _ h := h
  mem b ver' cells' _ he := ⟨ver', cells', he, Nat.le_refl _, fun _ => ⟨rfl, fun cs hcs => ⟨cs, hcs.of_heap (heap_lt_old hcs.lt), rfl⟩⟩⟩
  tok b sz n' _ he := ⟨n', he, Nat.le_refl _, fun _ => ⟨rfl, fun cs hcs => ⟨cs, hcs.of_heap (heap_lt_old hcs.lt), rfl⟩⟩⟩
  map b es' _ he := ⟨es', he, rfl⟩
theorem T.mint (hs : HS G H w) (ob : Obj) (m : Option Nat) : T w G H (w.alloc ob) ⟨G.σ, upd G.W w.heap.size m⟩ H where
  ext := Ext.mint hs ob m
  os := rfl
  tape := rfl
  output := rfl
  size := by simp
  own b hb := .inl ⟨hb, rfl⟩
  frame g hg _ := ⟨heap_lt_old hg, upd_other _ _ _ _ (by omega)⟩
theorem HS.mint (hs : HS G H w) (ob : Obj) (m : Option Nat) : HS ⟨G.σ, upd G.W w.heap.size m⟩ H (w.alloc ob) :=
  ⟨fun b => BR.ext (Ext.mint hs ob m) (hs.blk b) (fun ha => ⟨rfl, heap_lt_old (hs.lt b ha), upd_other _ _ _ _ (by have := hs.lt b ha; omega)⟩), hs.inj⟩

/-- Rows of data in a block of cells. -/
theorem RDrows_of {W : Nat → Option Nat} {g sz : Nat} : ∀ {rows : List (List D)} {p : Nat} {vs : List Value}, (∀ r, r ∈ rows → r.length = sz) → RDs w W rows.flatten vs →
    (∀ (i : Nat) (v : Value), vs[i]? = some v → w.cell? ⟨g, p + i, none⟩ = some v ∧ imm W g (p + i) ∧ v.oneCell' = true) → RDrows w W g sz p rows
  | [], _, _, _, _, _ => by simp only [RDrows]
  | r :: rs, p, vs, hs, hd, hc => by
    have hcells : ∀ (r : List D) (p : Nat) (vs : List Value), RDs w W r vs → (∀ (i : Nat) (v : Value), vs[i]? = some v → w.cell? ⟨g, p + i, none⟩ = some v ∧ imm W g (p + i) ∧ v.oneCell' = true) → RDcells w W g p r := by
      intro r
      induction r with
      | nil => intro p vs _ _; simp only [RDcells]
      | cons c cs ih =>
        intro p vs hd hc
        obtain ⟨v, vs', rfl, hv, hd⟩ := RDs_cons.1 hd
        simp only [RDcells]
        have h0 := hc 0 v rfl
        refine ⟨⟨v, by simpa using h0.1, by simpa using h0.2.1, h0.2.2, hv⟩, ih (p + 1) vs' hd (fun i u hu => ?_)⟩
        have := hc (i + 1) u (by simpa using hu)
        rw [show p + 1 + i = p + (i + 1) by omega]; exact this
    have hsplit : ∀ (r : List D) (l : List D) (vs : List Value), RDs w W (r ++ l) vs → ∃ us ts, vs = us ++ ts ∧ us.length = r.length ∧ RDs w W r us ∧ RDs w W l ts := by
      intro r
      induction r with
      | nil => intro l vs h; exact ⟨[], vs, rfl, rfl, by rw [RDs_nil], h⟩
      | cons c cs ih =>
        intro l vs h
        rw [List.cons_append] at h
        obtain ⟨v, vs', rfl, hv, h⟩ := RDs_cons.1 h
        obtain ⟨us, ts, rfl, hl, h1, h2⟩ := ih l vs' h
        exact ⟨v :: us, ts, rfl, by simp [hl], RDs_cons.2 ⟨v, us, rfl, hv, h1⟩, h2⟩
    rw [List.flatten_cons] at hd
    obtain ⟨us, ts, rfl, hl, h1, h2⟩ := hsplit r _ vs hd
    have hr : r.length = sz := hs r (by simp)
    simp only [RDrows]
    refine ⟨hr, hcells r p us h1 (fun i v hv => hc i v ?_), RDrows_of (fun x hx => hs x (by simp [hx])) h2 (fun i v hv => ?_)⟩
    · rw [List.getElem?_append_left (List.getElem?_eq_some_iff.1 hv).1]; exact hv
    · have := hc (us.length + i) v (by rw [List.getElem?_append_right (by omega)]; simpa using hv)
      rw [show p + sz + i = p + (us.length + i) by omega]; exact this

theorem cell_new (w : World) (C : Array Value) (t : TypeId) (fr : Nat × Nat) (j : Nat) : (w.alloc (.cells C t fr)).cell? ⟨w.heap.size, j, none⟩ = C[j]? := World.cell?_alloc_mark w C t fr j

/-- A new block of the world, whose first cells are rows of data: a list. -/
theorem list_new (hs : HS G H w) {C : Array Value} {t : TypeId} {fr : Nat × Nat} {rows : List (List D)} {sz : Nat} {vs : List Value} (hr : ∀ r, r ∈ rows → r.length = sz) (hd : RDs w G.W rows.flatten vs) (hone : Ones vs)
    (hC : ∀ (i : Nat) (v : Value), vs[i]? = some v → C[i]? = some v) {cap : Nat} (hcap : rows.length ≤ cap) :
    RD (w.alloc (.cells C t fr)) (upd G.W w.heap.size none) (.list rows) (.slice (some ⟨w.heap.size, 0, none⟩) rows.length cap) := by
  simp only [RD]
  refine ⟨_, _, rfl, hcap, fun _ => ⟨_, _, sz, rfl, ?_⟩⟩
  refine RDrows_of hr (RDs.keep (Keep.alloc w G.W _ none) _ _ hd) (fun i v hv => ⟨?_, fun m hm => ?_, hone.get hv⟩)
  · rw [Nat.zero_add, cell_new]; exact hC i v hv
  · rw [upd_same] at hm; cases hm

/-! ### Strings and bytes -/
def okBytes (P : Program) (t : TypeId) : Bool :=
  match P.underlying t with
  | some (.slice e) => (match P.underlying e with | some (.int .u8) => true | _ => false)
  | _ => false
theorem okBytes_ok {t : TypeId} (h : okBytes P t = true) : ∃ e, P.underlying t = some (.slice e) ∧ P.underlying e = some (.int .u8) := by
  unfold okBytes at h
  split at h
  · split at h
    · exact ⟨_, by assumption, by assumption⟩
    · cases h
  · cases h
def okStr (P : Program) (t : TypeId) : Bool := match P.underlying t with | some .string => true | _ => false
theorem okStr_ok {t : TypeId} (h : okStr P t = true) : P.underlying t = some .string := by
  unfold okStr at h
  split at h
  · assumption
  · cases h

theorem byteOf_ok {r : List D} {b : UInt8} (h : byteOf r = some b) : ∃ n : Int, r = [.int .u8 n] ∧ b = UInt8.ofNat n.toNat := by
  unfold byteOf at h
  split at h
  · cases h; exact ⟨_, rfl, rfl⟩
  · cases h

theorem op_toStr {s d : TypeId} {x : Operand} {xs : List V} (ho : o.op = .convert s d x) (h1 : okBytes P s = true) (h2 : okStr P d = true) (hx : RVs w G H xs [ρ x]) (hs : HS G H w) : Good P o ρ w G H (act pc base .toStr xs) := by
  obtain ⟨vx, rfl, hv⟩ := RVs1 hx
  obtain ⟨e, hu, hb⟩ := okBytes_ok h1
  have hd := okStr_ok h2
  simp only [act, a1, aToStr]
  refine Good.opt hs fun r eq => ?_
  simp only [Option.bind_eq_some_iff, Option.map_eq_some_iff] at eq
  obtain ⟨rows, hr, l, hl, rfl⟩ := eq
  have hR := rowsOf_ok hr hv
  simp only [RD] at hR
  obtain ⟨A, cap, hp, hcap, hn⟩ := hR
  refine ⟨.string ⟨l.toArray⟩, ?_, by simp only [RV, RD]⟩
  suffices h : (convert s d (ρ x)).run P w = .ok (.string ⟨l.toArray⟩) w by simp [execOp, ho, h]
  have key : ∀ (rows : List (List D)) (l : List UInt8), rows.mapM byteOf = some l → ∃ ns : List Int, rows = ns.map (fun n => [D.int .u8 n]) ∧ l = ns.map fun n => UInt8.ofNat n.toNat := by
    intro rows
    induction rows with
    | nil => intro l h; simp at h; subst h; exact ⟨[], rfl, rfl⟩
    | cons r rs ih =>
      intro l h
      simp only [List.mapM_cons, Option.pure_def, Option.bind_eq_bind, Option.bind_eq_some_iff, Option.some.injEq] at h
      obtain ⟨b, hb, l', hl', rfl⟩ := h
      obtain ⟨n, rfl, rfl⟩ := byteOf_ok hb
      obtain ⟨ns, rfl, rfl⟩ := ih l' hl'
      exact ⟨n :: ns, rfl, rfl⟩
  obtain ⟨ns, rfl, rfl⟩ := key rows l hl
  by_cases hne : ns = []
  · subst hne
    rw [hp]
    simp only [List.map_nil, List.length_nil]
    cases A with
    | none => simp [convert, run_underlying hu, run_underlying hd, run_underlying hb, Conv.bytesToString]; rfl
    | some a =>
      rw [run_convert_bytes_string w s d e (some a) 0 cap hu hb hd, run_bytesToString (P := P) w a 0 cap [] (by simp [loadCells, loadCellsFrom])]
      rfl
  · obtain ⟨g, p, sz, rfl, hR⟩ := hn (by simpa using hne)
    rw [hp, run_convert_bytes_string w s d e _ _ _ hu hb hd, run_bytesToString (P := P) w ⟨g, p, none⟩ _ cap ns ?_]
    · congr 2
      have : ∀ (l : List Int) (r : ByteArray), l.foldl (fun r n => r.push (UInt8.ofNat n.toNat)) r = ⟨r.data ++ (l.map fun n => UInt8.ofNat n.toNat).toArray⟩ := by
        intro l
        induction l with
        | nil => intro r; simp
        | cons n l ih => intro r; simp only [List.foldl_cons, ih, List.map_cons]; congr 1; simp [ByteArray.push]
      rw [this]
      show (⟨(#[] : Array UInt8) ++ _⟩ : ByteArray) = _
      simp
    · have := run_loadCells_list (P := P) w ⟨g, p, none⟩ (ns.map (Value.int .u8)) (fun j v hj => by
        simp only [List.getElem?_map, Option.map_eq_some_iff] at hj
        obtain ⟨n, hj, rfl⟩ := hj
        obtain ⟨hl, hc⟩ := RDrows_get hR (i := j) (r := [.int .u8 n]) (by simp [hj])
        simp at hl
        subst hl
        simp only [Nat.mul_one, RDcells, RD] at hc
        obtain ⟨⟨v, hv, _, _, rfl⟩, _⟩ := hc
        rw [add_lit']; exact hv)
      simpa using this

theorem op_toBytes {s d : TypeId} {x : Operand} {xs : List V} (ho : o.op = .convert s d x) (h1 : okStr P s = true) (h2 : okBytes P d = true) (hx : RVs w G H xs [ρ x]) (hs : HS G H w) : Good P o ρ w G H (act pc base .toBytes xs) := by
  obtain ⟨vx, rfl, hv⟩ := RVs1 hx
  obtain ⟨e, hu, hb⟩ := okBytes_ok h2
  have hd := okStr_ok h1
  simp only [act, a1, aToBytes]
  refine Good.ret fun r eq => ?_
  split at eq
  · rename_i l
    cases eq
    have hp := RVstr hv
    have hrun := run_bytes_of_string (P := P) w s d e ⟨l.toArray⟩ hd hu hb
    refine Does.value (by simp only [execOp, ho, hp, Sem.run_bind, hrun, Result.andThen_ok]; rfl) ⟨⟨G.σ, upd G.W w.drew.heap.size none⟩, ?_, (hs.drew).mint _ none, (T.drew w G H).trans (T.mint hs.drew _ none)⟩
    simp only [RV]
    have := list_new (hs.drew) (C := bytesRow ⟨l.toArray⟩ (grownCap w (⟨l.toArray⟩ : ByteArray).size 0 e)) (t := e) (fr := ((bytesRow ⟨l.toArray⟩ (grownCap w (⟨l.toArray⟩ : ByteArray).size 0 e)).size, (bytesRow ⟨l.toArray⟩ (grownCap w (⟨l.toArray⟩ : ByteArray).size 0 e)).size + 1))
      (rows := bytesD l) (sz := 1) (vs := l.map fun b => Value.int .u8 b.toNat) (by simp [bytesD]) (by
        have : ∀ l : List UInt8, RDs w.drew G.W (bytesD l).flatten (l.map fun b => Value.int .u8 b.toNat) := by
          intro l
          induction l with
          | nil => simp [bytesD, RDs_nil]
          | cons b l ih =>
            simp only [bytesD, List.map_cons, List.flatten_cons, List.singleton_append] at ih ⊢
            exact RDs_cons.2 ⟨_, _, rfl, by simp only [RD], ih⟩
        exact this l) (fun u hu => by
          obtain ⟨b, _, rfl⟩ := List.mem_map.1 hu
          rfl) (fun i v hi => by
          simp only [List.getElem?_map, Option.map_eq_some_iff] at hi
          obtain ⟨b, hb, rfl⟩ := hi
          have hlt : i < l.length := (List.getElem?_eq_some_iff.1 hb).1
          rw [bytesRow_at ⟨l.toArray⟩ _ i (by simpa using hlt)]
          simp only [List.getElem?_eq_getElem hlt, Option.some.injEq] at hb
          simp [hb]) (cap := grownCap w (⟨l.toArray⟩ : ByteArray).size 0 e) (by simp only [bytesD, List.length_map]; exact grownCap_ge w _ _ _)
    have hl : (bytesD l).length = l.length := by simp [bytesD]
    rw [hl] at this
    exact this
  · cases eq

theorem op_subStr {t : TypeId} {x : Operand} {lo hi : Option Operand} {xs : List V} (ho : o.op = .slice t x lo hi none) (he : okStr P t = true)
    (hx : RVs w G H xs ((x :: optOps lo hi none).map ρ)) (hs : HS G H w) : Good P o ρ w G H (act pc base (.subStr lo.isSome hi.isSome) xs) := by
  have hu := okStr_ok he
  rw [List.map_cons] at hx
  obtain ⟨vx, xs, rfl, h1, hxs⟩ := RVs_two hx
  simp only [act, aC, aSubStr]
  refine Good.opt hs fun r e => ?_
  split at e
  · rename_i s
    have hp := RVstr h1
    simp only [Option.map_eq_some_iff, Prod.exists] at e
    obtain ⟨l, h, m, hb, rfl⟩ := e
    obtain ⟨hbr, hlh, hhn, _, hhi, _⟩ := bounds_ok (P := P) (b := false) (len := s.length) (mx := none) hb hxs (Nat.le_refl _) (fun _ => by have := bounds_le hb; omega)
    have hH : (if hi.isSome = true then h else s.length) = h := by
      cases hi with
      | none => simp [hhi rfl]
      | some _ => rfl
    rw [hH] at hbr
    refine ⟨.string ((⟨s.toArray⟩ : ByteArray).extract l h), ?_, ?_⟩
    · have hsz : (⟨s.toArray⟩ : ByteArray).size = s.length := rfl
      simp only [Option.map_none] at hbr
      simp [execOp, ho, Instr.sliceAt, Instr.slice, run_underlying hu, hp, hsz, hbr]
    · simp only [RV, RD]
      congr 1
      apply ByteArray.ext
      simp [List.extract_eq_take_drop, List.drop_take]
  · cases e

/-! ### The greatest, the least -/
theorem fold2_ok {f : V → V → Option V} {g : Value → Value → Sem Value} (hf : ∀ x y z a b, f x y = some z → RV w G H x a → RV w G H y b → ∃ c, (g a b).run P w = .ok c w ∧ RV w G H z c) :
    ∀ (xs : List V) (x r : V) (vs : List Value) (v : Value), fold2 f x xs = some r → RV w G H x v → RVs w G H xs vs → ∃ c, (vs.foldlM g v).run P w = .ok c w ∧ RV w G H r c
  | [], x, r, vs, v, h, hx, hxs => by
    rw [RVs_nil] at hxs; subst hxs
    simp only [fold2, Option.some.injEq] at h; subst h
    exact ⟨v, rfl, hx⟩
  | y :: xs, x, r, vs, v, h, hx, hxs => by
    obtain ⟨u, us, rfl, hu, hxs⟩ := RVs_cons.1 hxs
    simp only [fold2, Option.bind_eq_some_iff] at h
    obtain ⟨z, hz, h⟩ := h
    obtain ⟨c, hc, hr⟩ := hf _ _ _ _ _ hz hx hu
    obtain ⟨c', hc', hr'⟩ := fold2_ok hf xs z r us c h hr hxs
    exact ⟨c', by simp [List.foldlM_cons, hc, hc'], hr'⟩

theorem op_max {ts : Array TypeId} {as : List Operand} {xs : List V} (ho : o.op = .call { callee := .builtin .max, args := as.toArray, argTypes := ts }) (hx : RVs w G H xs (as.map ρ)) (hs : HS G H w) : Good P o ρ w G H (act pc base .max xs) := by
  cases xs with
  | nil => simp only [act, aC, aMax]; exact Good.none
  | cons x xs =>
    simp only [act, aC, aMax]
    refine Good.opt hs fun r e => ?_
    split at e
    · cases as with
      | nil => rw [List.map_nil] at hx; obtain ⟨_, _, e, _⟩ := RVs_cons.1 hx; cases e
      | cons a as =>
        rw [List.map_cons] at hx
        obtain ⟨_, _, e1, h1, h2⟩ := RVs_cons.1 hx
        cases e1
        obtain ⟨c, hc, hr⟩ := fold2_ok (P := P) (g := Builtin.max2) (f := max2) (fun x y z a b h ha hb => by
          unfold max2 at h
          split at h
          · split at h
            · cases h
              rw [RVint ha, RVint hb]
              exact ⟨_, rfl, by simp only [RV, RD]⟩
            · cases h
          · cases h) _ _ _ _ _ e h1 h2
        exact ⟨c, by simp [execOp, ho, resolve, invoke, builtin, Builtin.max_, hc], hr⟩
    · cases e
theorem op_min {ts : Array TypeId} {as : List Operand} {xs : List V} (ho : o.op = .call { callee := .builtin .min, args := as.toArray, argTypes := ts }) (hx : RVs w G H xs (as.map ρ)) (hs : HS G H w) : Good P o ρ w G H (act pc base .min xs) := by
  cases xs with
  | nil => simp only [act, aC, aMin]; exact Good.none
  | cons x xs =>
    simp only [act, aC, aMin]
    refine Good.opt hs fun r e => ?_
    split at e
    · cases as with
      | nil => rw [List.map_nil] at hx; obtain ⟨_, _, e, _⟩ := RVs_cons.1 hx; cases e
      | cons a as =>
        rw [List.map_cons] at hx
        obtain ⟨_, _, e1, h1, h2⟩ := RVs_cons.1 hx
        cases e1
        obtain ⟨c, hc, hr⟩ := fold2_ok (P := P) (g := Builtin.min2) (f := min2) (fun x y z a b h ha hb => by
          unfold min2 at h
          split at h
          · split at h
            · cases h
              rw [RVint ha, RVint hb]
              exact ⟨_, rfl, by simp only [RV, RD]⟩
            · cases h
          · cases h) _ _ _ _ _ e h1 h2
        exact ⟨c, by simp [execOp, ho, resolve, invoke, builtin, Builtin.min_, hc], hr⟩
    · cases e

/-! ### Rows that a block is read for -/
theorem rowsIn_ok {sz : Nat} : ∀ {n : Nat} {cells : List V} {rows : List (List D)} {vs : List Value}, rowsIn sz n cells = some rows → RVs w G H cells vs →
    rows.length = n ∧ (∀ r, r ∈ rows → r.length = sz) ∧ RDs w G.W rows.flatten (vs.take (n * sz)) ∧ n * sz ≤ cells.length
  | 0, cells, rows, vs, h, hv => by
    simp only [rowsIn, Option.some.injEq] at h
    subst h
    simp [RDs_nil]
  | n + 1, cells, rows, vs, h, hv => by
    simp only [rowsIn, Option.bind_eq_some_iff] at h
    obtain ⟨r, hr, h⟩ := h
    split at h
    · rename_i hsz
      simp only [Option.map_eq_some_iff] at h
      obtain ⟨rs, h, rfl⟩ := h
      obtain ⟨h1, h2, h3, h4⟩ := rowsIn_ok h (hv.drop sz)
      have hd := toDs_ok _ _ _ hr (hv.take sz)
      have hlen : (vs.take sz).length = sz := by
        have := hd.length
        omega
      have hvl := hv.length
      rw [List.length_take] at hlen
      refine ⟨by simp [h1], fun x hx => ?_, ?_, ?_⟩
      · cases hx with
        | head => exact hsz
        | tail _ hx => exact h2 x hx
      · rw [List.flatten_cons]
        have happ : ∀ (xs ys : List D) (us ts : List Value), RDs w G.W xs us → RDs w G.W ys ts → RDs w G.W (xs ++ ys) (us ++ ts) := by
          intro xs ys us ts h1 h2
          have := RVs.append (G := G) (H := H) (RVs_map_d.2 h1) (RVs_map_d.2 h2)
          rw [← List.map_append] at this
          exact RVs_map_d.1 this
        have e : vs.take ((n + 1) * sz) = vs.take sz ++ (vs.drop sz).take (n * sz) := by
          rw [Nat.add_mul, Nat.one_mul, Nat.add_comm, List.take_add]
        rw [e]
        exact happ _ _ _ _ hd h3
      · rw [List.length_drop] at h4
        rw [Nat.add_mul]; omega
    · cases h
end
end Go.Vm
