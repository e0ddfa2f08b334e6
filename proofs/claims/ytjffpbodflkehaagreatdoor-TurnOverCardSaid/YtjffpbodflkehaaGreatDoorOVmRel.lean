/- How the small machine's values and heap lie in the model's world; what stays when the world goes on. -/
import Derived.Test.YtjffpbodflkehaaGreatDoorOVmDef
import Derived.Below
set_option linter.unusedVariables false
set_option linter.unusedVariables false
set_option linter.unusedSimpArgs false
namespace Go.Vm
open Go.RowKit

/-- A cell that is never written any more: W tells of a block how many of its cells are such; none: all. -/
def imm (W : Nat → Option Nat) (g o : Nat) : Prop := ∀ m, W g = some m → o < m

mutual
/-- A value of the model is this data. -/
def RD (w : World) (W : Nat → Option Nat) : D → Value → Prop
  | .int k n, v => v = .int k n
  | .bool b, v => v = .bool b
  | .str s, v => v = .string ⟨s.toArray⟩
  | .agg cs, v => ∃ vs : List Value, v = .agg vs.toArray ∧ RDs w W cs vs ∧ ∀ u, u ∈ vs → u.oneCell' = true
  | .tup cs, v => ∃ vs : List Value, v = .tuple vs.toArray ∧ RDs w W cs vs
  | .list rows, v => ∃ A cap, v = .slice A rows.length cap ∧ rows.length ≤ cap ∧ (rows ≠ [] → ∃ g o sz, A = some ⟨g, o, none⟩ ∧ RDrows w W g sz o rows)
  | .nilI, v => v = .nilIface
  | .ifc t d, v => ∃ x, v = .iface t x ∧ RD w W d x
  | .ref cells, v => ∃ g o, v = .pointer (some ⟨g, o, none⟩) ∧ RDcells w W g o cells
  | .nilp, v => v = .pointer none
def RDs (w : World) (W : Nat → Option Nat) : List D → List Value → Prop
  | [], vs => vs = []
  | c :: cs, vs => ∃ v vs', vs = v :: vs' ∧ RD w W c v ∧ RDs w W cs vs'
def RDrows (w : World) (W : Nat → Option Nat) (g sz : Nat) : Nat → List (List D) → Prop
  | _, [] => True
  | o, r :: rs => r.length = sz ∧ RDcells w W g o r ∧ RDrows w W g sz (o + sz) rs
def RDcells (w : World) (W : Nat → Option Nat) (g : Nat) : Nat → List D → Prop
  | _, [] => True
  | o, c :: cs => (∃ v, w.cell? ⟨g, o, none⟩ = some v ∧ imm W g o ∧ v.oneCell' = true ∧ RD w W c v) ∧ RDcells w W g (o + 1) cs
end

/-- The ghost: where a block of the machine lies; how far a block of the model is immutable. -/
structure Gh where
  σ : Nat → Nat
  W : Nat → Option Nat

/-- Block g holds n cells that may be written. -/
def Holds (w : World) (g : Nat) (cs : Array Value) : Prop := ∃ ty, w.heap[g]? = some (.cells cs ty (0, 0))

mutual
def RV (w : World) (G : Gh) (H : List Blk) : V → Value → Prop
  | .d x, v => RD w G.W x v
  | .vec b rows, v => RD w G.W (.list rows) v ∧ getB H b ≠ .dead ∧ ∀ sz n, getB H b = .tok sz n → rows.length ≤ n ∧
      (rows.length = n → ∃ cap cs, v = .slice (some ⟨G.σ b, 0, none⟩) n cap ∧ Holds w (G.σ b) cs ∧ cs.size = cap * sz ∧ ∀ r, r ∈ rows → r.length = sz)
  | .arr b ver sz off len, v => (∃ a c, v = .slice (some a) len c ∧ len ≤ c) ∧ getB H b ≠ .dead ∧ ∀ ver' cells, getB H b = .mem ver' cells → ver ≤ ver' ∧
      (ver = ver' → ∃ a cap cs, v = .slice (some a) len cap ∧ len ≤ cap ∧ (0 < cap → a = ⟨G.σ b, off, none⟩) ∧ a.block = G.σ b ∧ Holds w (G.σ b) cs ∧ off + cap * sz = cs.size)
  | .ptr b ver off, v => (∃ a, v = .pointer (some a)) ∧ getB H b ≠ .dead ∧ ∀ ver' cells, getB H b = .mem ver' cells → ver ≤ ver' ∧ (ver = ver' → v = .pointer (some ⟨G.σ b, off, none⟩))
  | .map b, v => (∃ r, v = .map (some r)) ∧ getB H b ≠ .dead ∧ ∀ es, getB H b = .map es → v = .map (some (G.σ b))
  | .fn f cap, v => ∃ cs : List Value, v = .func (.func f) #[] cs.toArray ∧ RVs w G H cap cs
  | .agg cs, v => ∃ vs : List Value, v = .agg vs.toArray ∧ RVs w G H cs vs ∧ ∀ u, u ∈ vs → u.oneCell' = true
  | .tup cs, v => ∃ vs : List Value, v = .tuple vs.toArray ∧ RVs w G H cs vs
  | .nilS, v => v = .slice none 0 0
  | .e0, v => ∃ A, v = .slice A 0 0
  | .nn rows, v => RD w G.W (.list rows) v ∧ ∃ a n c, v = .slice (some a) n c
  | .ex rows, v => RD w G.W (.list rows) v ∧ ∃ a, v = .slice (some a) rows.length rows.length
  | .nilF, v => v = .nilFunc
  | .junk, _ => True
def RVs (w : World) (G : Gh) (H : List Blk) : List V → List Value → Prop
  | [], vs => vs = []
  | c :: cs, vs => ∃ v vs', vs = v :: vs' ∧ RV w G H c v ∧ RVs w G H cs vs'
end

def Blk.act : Blk → Prop
  | .mem .. => True
  | .tok .. => True
  | .map _ => True
  | _ => False

def EntriesR (w : World) (G : Gh) (H : List Blk) : List (D × V) → List MapEntry → Prop
  | [], l => l = []
  | e :: es, l => ∃ m ms, l = m :: ms ∧ RD w G.W e.1 m.key ∧ RV w G H e.2 m.val ∧ EntriesR w G H es ms

def BR (w : World) (G : Gh) (H : List Blk) (b : Nat) : Blk → Prop
  | .mem _ cells => ∃ cs, Holds w (G.σ b) cs ∧ cells.length ≤ cs.size ∧ G.W (G.σ b) = some 0 ∧ ∀ (i : Nat) (c : V), cells[i]? = some c → ∃ v : Value, cs[i]? = some v ∧ v.oneCell' = true ∧ RV w G H c v
  | .tok sz n => ∃ cs, Holds w (G.σ b) cs ∧ n * sz ≤ cs.size ∧ G.W (G.σ b) = some (n * sz)
  | .map es => G.W (G.σ b) = some 0 ∧ ∃ ms clock, w.heap[G.σ b]? = some (.map ms clock) ∧ EntriesR w G H es ms.toList
  | _ => True

/-- The machine's heap lies in the world w. -/
structure HS (G : Gh) (H : List Blk) (w : World) : Prop where
  blk : ∀ b, BR w G H b (getB H b)
  inj : ∀ b c, (getB H b).act → (getB H c).act → G.σ b = G.σ c → b = c

/-! ### Lists -/
theorem getT_setT (l : List V) : ∀ (n m : Nat) (x : V), getT (setT l n x) m = if m = n then x else getT l m := by
  induction l with
  | nil =>
    intro n
    induction n with
    | zero => intro m x; cases m <;> simp [setT_nil_zero, setT_nil_succ, setT_zero, setT_succ, getT_nil, getT_zero, getT_succ]
    | succ n ih => intro m x; cases m with
      | zero => simp [setT_nil_zero, setT_nil_succ, setT_zero, setT_succ, getT_nil, getT_zero, getT_succ]
      | succ m => simp [setT_nil_zero, setT_nil_succ, setT_zero, setT_succ, getT_nil, getT_zero, getT_succ, ih m x]
  | cons y l ih =>
    intro n m x
    cases n with
    | zero => cases m <;> simp [setT_nil_zero, setT_nil_succ, setT_zero, setT_succ, getT_nil, getT_zero, getT_succ]
    | succ n => cases m with
      | zero => simp [setT_nil_zero, setT_nil_succ, setT_zero, setT_succ, getT_nil, getT_zero, getT_succ]
      | succ m => simp [setT_nil_zero, setT_nil_succ, setT_zero, setT_succ, getT_nil, getT_zero, getT_succ, ih n m x]

theorem getB_setB (l : List Blk) : ∀ (n m : Nat) (x : Blk), getB (setB l n x) m = if m = n then x else getB l m := by
  induction l with
  | nil =>
    intro n
    induction n with
    | zero => intro m x; cases m <;> simp [setB, getB]
    | succ n ih => intro m x; cases m with
      | zero => simp [setB, getB]
      | succ m => simp [setB, getB, ih m x]
  | cons y l ih =>
    intro n m x
    cases n with
    | zero => cases m <;> simp [setB, getB]
    | succ n => cases m with
      | zero => simp [setB, getB]
      | succ m => simp [setB, getB, ih n m x]

theorem getB_eq (l : List Blk) : ∀ n, getB l n = (l[n]?).getD .dead := by
  induction l with
  | nil => intro n; simp [getB]
  | cons y l ih => intro n; cases n with
    | zero => simp [getB]
    | succ n => simp [getB, ih]
theorem getB_take (l : List Blk) (n m : Nat) : getB (l.take n) m = if m < n then getB l m else .dead := by
  rw [getB_eq, getB_eq, List.getElem?_take]; split <;> rfl
theorem getB_append (l r : List Blk) (m : Nat) : getB (l ++ r) m = if m < l.length then getB l m else getB r (m - l.length) := by
  rw [getB_eq, getB_eq, getB_eq]
  split
  · rw [List.getElem?_append_left (by assumption)]
  · rw [List.getElem?_append_right (by omega)]
theorem getB_dead (n m : Nat) : getB (List.replicate n .dead) m = .dead := by
  rw [getB_eq, List.getElem?_replicate]; split <;> rfl
theorem getB_out (l : List Blk) (m : Nat) (h : l.length ≤ m) : getB l m = .dead := by
  rw [getB_eq, List.getElem?_eq_none h]; rfl

/-! ### What stays -/
/-- From one world to a later one: what is immutable stays so. -/
structure Keep (w : World) (W : Nat → Option Nat) (w' : World) (W' : Nat → Option Nat) : Prop where
  cell : ∀ g o v, w.cell? ⟨g, o, none⟩ = some v → imm W g o → w'.cell? ⟨g, o, none⟩ = some v ∧ imm W' g o

theorem Keep.refl (w : World) (W) : Keep w W w W := ⟨fun _ _ _ h i => ⟨h, i⟩⟩
theorem Keep.trans {w W w1 W1 w2 W2} (h : Keep w W w1 W1) (k : Keep w1 W1 w2 W2) : Keep w W w2 W2 :=
  ⟨fun g o v hv hi => let ⟨a, b⟩ := h.cell g o v hv hi; k.cell g o v a b⟩

mutual
theorem RD.keep {w W w' W'} (h : Keep w W w' W') : ∀ (x : D) (v : Value), RD w W x v → RD w' W' x v
  | .int .., _, r => by simpa only [RD] using r
  | .bool _, _, r => by simpa only [RD] using r
  | .str _, _, r => by simpa only [RD] using r
  | .agg cs, _, r => by
    simp only [RD] at r ⊢
    obtain ⟨vs, e, r, r1⟩ := r
    exact ⟨vs, e, RDs.keep h cs vs r, r1⟩
  | .tup cs, _, r => by
    simp only [RD] at r ⊢
    obtain ⟨vs, e, r⟩ := r
    exact ⟨vs, e, RDs.keep h cs vs r⟩
  | .list rows, _, r => by
    simp only [RD] at r ⊢
    obtain ⟨A, cap, e, hc, r⟩ := r
    refine ⟨A, cap, e, hc, fun hn => ?_⟩
    obtain ⟨g, o, sz, ea, r⟩ := r hn
    exact ⟨g, o, sz, ea, RDrows.keep h g sz rows o r⟩
  | .nilI, _, r => by simpa only [RD] using r
  | .ifc t d, _, r => by
    simp only [RD] at r ⊢
    obtain ⟨x, e, r⟩ := r
    exact ⟨x, e, RD.keep h d x r⟩
  | .ref cells, _, r => by
    simp only [RD] at r ⊢
    obtain ⟨g, o, e, r⟩ := r
    exact ⟨g, o, e, RDcells.keep h g cells o r⟩
  | .nilp, _, r => by simpa only [RD] using r
theorem RDs.keep {w W w' W'} (h : Keep w W w' W') : ∀ (xs : List D) (vs : List Value), RDs w W xs vs → RDs w' W' xs vs
  | [], _, r => by simpa only [RDs] using r
  | c :: cs, _, r => by
    simp only [RDs] at r ⊢
    obtain ⟨v, vs', e, r, rs⟩ := r
    exact ⟨v, vs', e, RD.keep h c v r, RDs.keep h cs vs' rs⟩
theorem RDrows.keep {w W w' W'} (h : Keep w W w' W') (g sz : Nat) : ∀ (rows : List (List D)) (o : Nat), RDrows w W g sz o rows → RDrows w' W' g sz o rows
  | [], _, _ => by simp only [RDrows]
  | r :: rs, o, ⟨a, b, c⟩ => by
    simp only [RDrows]
    exact ⟨a, RDcells.keep h g r o b, RDrows.keep h g sz rs (o + sz) c⟩
theorem RDcells.keep {w W w' W'} (h : Keep w W w' W') (g : Nat) : ∀ (cells : List D) (o : Nat), RDcells w W g o cells → RDcells w' W' g o cells
  | [], _, _ => by simp only [RDcells]
  | c :: cs, o, r => by
    simp only [RDcells] at r ⊢
    obtain ⟨⟨v, hv, hi, h1, r⟩, rs⟩ := r
    obtain ⟨a, b⟩ := h.cell g o v hv hi
    exact ⟨⟨v, a, b, h1, RD.keep h c v r⟩, RDcells.keep h g cs (o + 1) rs⟩
end

/-- From one state to a later one: every reference that there was leads where it led, or leads nowhere. -/
structure Ext (w : World) (G : Gh) (H : List Blk) (w' : World) (G' : Gh) (H' : List Blk) : Prop where
  keep : Keep w G.W w' G'.W
  live : ∀ b, getB H b ≠ .dead → getB H' b ≠ .dead
  mem : ∀ b ver' cells', getB H b ≠ .dead → getB H' b = .mem ver' cells' → ∃ ver cells, getB H b = .mem ver cells ∧ ver ≤ ver' ∧
    (ver = ver' → G'.σ b = G.σ b ∧ ∀ cs, Holds w (G.σ b) cs → ∃ cs', Holds w' (G.σ b) cs' ∧ cs'.size = cs.size)
  tok : ∀ b sz n', getB H b ≠ .dead → getB H' b = .tok sz n' → ∃ n, getB H b = .tok sz n ∧ n ≤ n' ∧
    (n = n' → G'.σ b = G.σ b ∧ ∀ cs, Holds w (G.σ b) cs → ∃ cs', Holds w' (G.σ b) cs' ∧ cs'.size = cs.size)
  map : ∀ b es', getB H b ≠ .dead → getB H' b = .map es' → ∃ es, getB H b = .map es ∧ G'.σ b = G.σ b

theorem Ext.refl (w G H) : Ext w G H w G H :=
  ⟨Keep.refl _ _, fun _ h => h, fun b ver' cells' _ h => ⟨ver', cells', h, Nat.le_refl _, fun _ => ⟨rfl, fun cs h => ⟨cs, h, rfl⟩⟩⟩,
   fun b sz n' _ h => ⟨n', h, Nat.le_refl _, fun _ => ⟨rfl, fun cs h => ⟨cs, h, rfl⟩⟩⟩, fun b es' _ h => ⟨es', h, rfl⟩⟩

theorem Ext.trans {w G H w1 G1 H1 w2 G2 H2} (h : Ext w G H w1 G1 H1) (k : Ext w1 G1 H1 w2 G2 H2) : Ext w G H w2 G2 H2 where
  keep := h.keep.trans k.keep
  live b hb := k.live b (h.live b hb)
  mem b ver' cells' hb he := by
    obtain ⟨v1, c1, e1, l1, s1⟩ := k.mem b ver' cells' (h.live b hb) he
    obtain ⟨v0, c0, e0, l0, s0⟩ := h.mem b v1 c1 hb e1
    refine ⟨v0, c0, e0, by omega, fun hv => ?_⟩
    obtain ⟨a, b1⟩ := s1 (by omega)
    obtain ⟨a0, b0⟩ := s0 (by omega)
    refine ⟨a.trans a0, fun cs hcs => ?_⟩
    obtain ⟨cs1, h1, z1⟩ := b0 cs hcs
    obtain ⟨cs2, h2, z2⟩ := b1 cs1 (by rw [a0]; exact h1)
    exact ⟨cs2, by rw [← a0]; exact h2, z2.trans z1⟩
  tok b sz n' hb he := by
    obtain ⟨v1, e1, l1, s1⟩ := k.tok b sz n' (h.live b hb) he
    obtain ⟨v0, e0, l0, s0⟩ := h.tok b sz v1 hb e1
    refine ⟨v0, e0, by omega, fun hv => ?_⟩
    obtain ⟨a, b1⟩ := s1 (by omega)
    obtain ⟨a0, b0⟩ := s0 (by omega)
    refine ⟨a.trans a0, fun cs hcs => ?_⟩
    obtain ⟨cs1, h1, z1⟩ := b0 cs hcs
    obtain ⟨cs2, h2, z2⟩ := b1 cs1 (by rw [a0]; exact h1)
    exact ⟨cs2, by rw [← a0]; exact h2, z2.trans z1⟩
  map b es' hb he := by
    obtain ⟨e1, h1, s1⟩ := k.map b es' (h.live b hb) he
    obtain ⟨e0, h0, s0⟩ := h.map b e1 hb h1
    exact ⟨e0, h0, s1.trans s0⟩

mutual
theorem RV.ext {w G H w' G' H'} (h : Ext w G H w' G' H') : ∀ (x : V) (v : Value), RV w G H x v → RV w' G' H' x v
  | .d x, v, r => by simp only [RV] at r ⊢; exact RD.keep h.keep x v r
  | .vec b rows, v, r => by
    simp only [RV] at r ⊢
    obtain ⟨a, hd, r⟩ := r
    refine ⟨RD.keep h.keep _ _ a, h.live b hd, fun sz n he => ?_⟩
    obtain ⟨n0, e0, l0, s0⟩ := h.tok b sz n hd he
    obtain ⟨l1, r1⟩ := r sz n0 e0
    refine ⟨by omega, fun hn => ?_⟩
    obtain ⟨es, hs⟩ := s0 (by omega)
    obtain ⟨cap, cs, ev, hh, hz, hr⟩ := r1 (by omega)
    obtain ⟨cs', hh', hz'⟩ := hs cs hh
    refine ⟨cap, cs', ?_, by rw [es]; exact hh', hz'.trans hz, hr⟩
    rw [es, ev]; have : n0 = n := by omega
    rw [this]
  | .arr b ver sz off len, v, r => by
    simp only [RV] at r ⊢
    obtain ⟨hs0, hd, r⟩ := r
    refine ⟨hs0, h.live b hd, fun ver' cells he => ?_⟩
    obtain ⟨v0, c0, e0, l0, s0⟩ := h.mem b ver' cells hd he
    obtain ⟨l1, r1⟩ := r v0 c0 e0
    refine ⟨by omega, fun hn => ?_⟩
    obtain ⟨es, hs⟩ := s0 (by omega)
    obtain ⟨A, cap, cs, ev, hl, hA, hB, hh, hz⟩ := r1 (by omega)
    obtain ⟨cs', hh', hz'⟩ := hs cs hh
    exact ⟨A, cap, cs', ev, hl, by rw [es]; exact hA, by rw [es]; exact hB, by rw [es]; exact hh', by omega⟩
  | .ptr b ver off, v, r => by
    simp only [RV] at r ⊢
    obtain ⟨hs0, hd, r⟩ := r
    refine ⟨hs0, h.live b hd, fun ver' cells he => ?_⟩
    obtain ⟨v0, c0, e0, l0, s0⟩ := h.mem b ver' cells hd he
    obtain ⟨l1, r1⟩ := r v0 c0 e0
    refine ⟨by omega, fun hn => ?_⟩
    obtain ⟨es, hs⟩ := s0 (by omega)
    rw [es]; exact r1 (by omega)
  | .map b, v, r => by
    simp only [RV] at r ⊢
    obtain ⟨hs0, hd, r⟩ := r
    refine ⟨hs0, h.live b hd, fun es he => ?_⟩
    obtain ⟨e0, h0, s0⟩ := h.map b es hd he
    rw [s0]; exact r e0 h0
  | .fn f cap, v, r => by
    simp only [RV] at r ⊢
    obtain ⟨cs, e, r⟩ := r
    exact ⟨cs, e, RVs.ext h cap cs r⟩
  | .agg cs, v, r => by
    simp only [RV] at r ⊢
    obtain ⟨vs, e, r, r1⟩ := r
    exact ⟨vs, e, RVs.ext h cs vs r, r1⟩
  | .tup cs, v, r => by
    simp only [RV] at r ⊢
    obtain ⟨vs, e, r⟩ := r
    exact ⟨vs, e, RVs.ext h cs vs r⟩
  | .nilS, _, r => by simpa only [RV] using r
  | .e0, _, r => by simpa only [RV] using r
  | .nn rows, v, r => by simp only [RV] at r ⊢; exact ⟨RD.keep h.keep _ _ r.1, r.2⟩
  | .ex rows, v, r => by simp only [RV] at r ⊢; exact ⟨RD.keep h.keep _ _ r.1, r.2⟩
  | .nilF, _, r => by simpa only [RV] using r
  | .junk, _, _ => by simp only [RV]
theorem RVs.ext {w G H w' G' H'} (h : Ext w G H w' G' H') : ∀ (xs : List V) (vs : List Value), RVs w G H xs vs → RVs w' G' H' xs vs
  | [], _, r => by simpa only [RVs] using r
  | c :: cs, _, r => by
    simp only [RVs] at r ⊢
    obtain ⟨v, vs', e, r, rs⟩ := r
    exact ⟨v, vs', e, RV.ext h c v r, RVs.ext h cs vs' rs⟩
end

theorem EntriesR.ext {w G H w' G' H'} (h : Ext w G H w' G' H') : ∀ (es : List (D × V)) (ms : List MapEntry), EntriesR w G H es ms → EntriesR w' G' H' es ms
  | [], _, r => r
  | e :: es, _, r => by
    obtain ⟨m, ms', e', a, b, c⟩ := r
    exact ⟨m, ms', e', RD.keep h.keep _ _ a, RV.ext h _ _ b, EntriesR.ext h es ms' c⟩

/-- A step of the machine's: what it had stays reachable, what it did not own stays as it was. -/
structure T (w : World) (G : Gh) (H : List Blk) (w' : World) (G' : Gh) (H' : List Blk) : Prop where
  ext : Ext w G H w' G' H'
  os : w'.os = w.os
  tape : w'.tape = w.tape
  output : w'.output = w.output
  size : w.heap.size ≤ w'.heap.size
  own : ∀ b, (getB H' b).act → ((getB H b).act ∧ G'.σ b = G.σ b) ∨ w.heap.size ≤ G'.σ b
  frame : ∀ g, g < w.heap.size → (∀ b, (getB H b).act → G.σ b ≠ g) → w'.heap[g]? = w.heap[g]? ∧ G'.W g = G.W g

theorem T.refl (w G H) : T w G H w G H := ⟨Ext.refl _ _ _, rfl, rfl, rfl, Nat.le_refl _, fun _ h => .inl ⟨h, rfl⟩, fun _ _ _ => ⟨rfl, rfl⟩⟩
theorem T.trans {w G H w1 G1 H1 w2 G2 H2} (h : T w G H w1 G1 H1) (k : T w1 G1 H1 w2 G2 H2) : T w G H w2 G2 H2 where
  ext := h.ext.trans k.ext
  os := k.os.trans h.os
  tape := k.tape.trans h.tape
  output := k.output.trans h.output
  size := Nat.le_trans h.size k.size
  own b hb := by
    rcases k.own b hb with ⟨h1, e1⟩ | h1
    · rcases h.own b h1 with ⟨h2, e2⟩ | h2
      · exact .inl ⟨h2, e1.trans e2⟩
      · exact .inr (by rw [e1]; exact h2)
    · exact .inr (Nat.le_trans h.size h1)
  frame g hg hn := by
    obtain ⟨a, c⟩ := h.frame g hg hn
    obtain ⟨a', c'⟩ := k.frame g (Nat.lt_of_lt_of_le hg h.size) (fun b hb => by
      rcases h.own b hb with ⟨h1, e1⟩ | h1
      · rw [e1]; exact hn b h1
      · omega)
    exact ⟨a'.trans a, c'.trans c⟩

end Go.Vm
