/- The machine's heap beside the model's world: a block that is taken, a block that is written, what is let go. -/
import Derived.Test.YtjffpbodflkehaaGreatDoorOVmRel
import Derived.Laws.AppendOwn
set_option linter.unusedVariables false
namespace Go.Vm
open Go.RowKit

def upd {α : Type} (f : Nat → α) (n : Nat) (x : α) : Nat → α := fun m => if m = n then x else f m
theorem upd_same {α : Type} (f : Nat → α) (n : Nat) (x : α) : upd f n x n = x := by simp [upd]
theorem upd_other {α : Type} (f : Nat → α) (n m : Nat) (x : α) (h : m ≠ n) : upd f n x m = f m := by simp [upd, h]

theorem cell_lt {w : World} {g o : Nat} {v : Value} (h : w.cell? ⟨g, o, none⟩ = some v) : g < w.heap.size := World.block_lt_of_cell? w ⟨g, o, none⟩ h
theorem Holds.lt {w : World} {g : Nat} {cs : Array Value} (h : Holds w g cs) : g < w.heap.size := by
  obtain ⟨ty, h⟩ := h; exact (Array.getElem?_eq_some_iff.1 h).1
theorem Holds.cell {w : World} {g : Nat} {cs : Array Value} (h : Holds w g cs) (i : Nat) : w.cell? ⟨g, i, none⟩ = cs[i]? := by
  obtain ⟨ty, h⟩ := h; exact cell_of_row w g i cs ty (0, 0) h
theorem Holds.frozen {w : World} {g : Nat} {cs : Array Value} (h : Holds w g cs) (i : Nat) : w.frozen? ⟨g, i, none⟩ = false := by
  obtain ⟨ty, h⟩ := h; simp [World.frozen?, h]
theorem Holds.uniq {w : World} {g : Nat} {cs cs' : Array Value} (h : Holds w g cs) (h' : Holds w g cs') : cs = cs' := by
  obtain ⟨ty, h⟩ := h; obtain ⟨ty', h'⟩ := h'
  rw [h] at h'; injection h' with h'; injection h' with h'
theorem Holds.of_heap {w w' : World} {g : Nat} {cs : Array Value} (h : Holds w g cs) (e : w'.heap[g]? = w.heap[g]?) : Holds w' g cs := by
  obtain ⟨ty, h⟩ := h; exact ⟨ty, e.trans h⟩

theorem BR.lt {w G H b blk} (r : BR w G H b blk) (ha : blk.act) : G.σ b < w.heap.size := by
  cases blk with
  | mem ver cells => obtain ⟨cs, h, _⟩ := r; exact h.lt
  | tok sz n => obtain ⟨cs, h, _⟩ := r; exact h.lt
  | map es => obtain ⟨_, ms, clock, h, _⟩ := r; exact (Array.getElem?_eq_some_iff.1 h).1
  | dead => exact ha.elim
  | gone => exact ha.elim

theorem BR.ext {w G H w' G' H'} (h : Ext w G H w' G' H') {b : Nat} {blk : Blk} (r : BR w G H b blk)
    (hs : blk.act → G'.σ b = G.σ b ∧ w'.heap[G.σ b]? = w.heap[G.σ b]? ∧ G'.W (G.σ b) = G.W (G.σ b)) : BR w' G' H' b blk := by
  cases blk with
  | mem ver cells =>
    obtain ⟨cs, hh, hl, hW, hc⟩ := r
    obtain ⟨a, e, eW⟩ := hs trivial
    refine ⟨cs, by rw [a]; exact hh.of_heap e, hl, by rw [a, eW]; exact hW, fun i c hi => ?_⟩
    obtain ⟨v, hv, h1, rv⟩ := hc i c hi
    exact ⟨v, hv, h1, RV.ext h c v rv⟩
  | tok sz n =>
    obtain ⟨cs, hh, hl, hW⟩ := r
    obtain ⟨a, e, eW⟩ := hs trivial
    exact ⟨cs, by rw [a]; exact hh.of_heap e, hl, by rw [a, eW]; exact hW⟩
  | map es =>
    obtain ⟨hW, ms, clock, hh, he⟩ := r
    obtain ⟨a, e, eW⟩ := hs trivial
    exact ⟨by rw [a, eW]; exact hW, ms, clock, by rw [a, e]; exact hh, EntriesR.ext h es _ he⟩
  | dead => trivial
  | gone => trivial

/-- A state goes over to one whose heap differs in block b alone. -/
theorem HS.turn {G H w} (h : HS G H w) {G' : Gh} {w' : World} {b : Nat} {blk : Blk}
    (hx : Ext w G H w' G' (setB H b blk))
    (hb : BR w' G' (setB H b blk) b blk)
    (hσ : ∀ c, c ≠ b → G'.σ c = G.σ c)
    (hheap : ∀ c, c ≠ b → (getB H c).act → w'.heap[G.σ c]? = w.heap[G.σ c]? ∧ G'.W (G.σ c) = G.W (G.σ c))
    (hfar : ∀ c, c ≠ b → (getB H c).act → blk.act → G'.σ b ≠ G.σ c) : HS G' (setB H b blk) w' where
  blk c := by
    rw [getB_setB]
    by_cases hc : c = b
    · subst hc; simpa using hb
    · rw [if_neg hc]
      exact BR.ext hx (h.blk c) (fun ha => ⟨hσ c hc, hheap c hc ha⟩)
  inj c d hc hd he := by
    rw [getB_setB] at hc hd
    by_cases h1 : c = b <;> by_cases h2 : d = b
    · rw [h1, h2]
    · subst h1
      rw [if_pos rfl] at hc
      rw [if_neg h2] at hd
      rw [hσ d h2] at he
      exact absurd he (hfar d h2 hd hc)
    · subst h2
      rw [if_neg h1] at hc
      rw [if_pos rfl] at hd
      rw [hσ c h1] at he
      exact absurd he.symm (hfar c h1 hc hd)
    · rw [if_neg h1] at hc
      rw [if_neg h2] at hd
      rw [hσ c h1, hσ d h2] at he
      exact h.inj c d hc hd he

theorem heap_lt_old {w : World} {o : Obj} {g : Nat} (h : g < w.heap.size) : (w.alloc o).heap[g]? = w.heap[g]? := heap_alloc_old w o g h

theorem Keep.alloc (w : World) (W : Nat → Option Nat) (o : Obj) (m : Option Nat) : Keep w W (w.alloc o) (upd W w.heap.size m) :=
  ⟨fun g p v hv hi => by
    have hlt := cell_lt hv
    refine ⟨by rw [World.cell?_alloc_lt w o _ hlt]; exact hv, fun q hq => hi q ?_⟩
    rwa [upd_other _ _ _ _ (by omega)] at hq⟩

/-- A block that is free is taken, and a new block of the world stands for it. -/
theorem Ext.alloc {w : World} {G : Gh} {H : List Blk} (hlt : ∀ c, (getB H c).act → G.σ c < w.heap.size) {b : Nat} (hd : getB H b = .dead) (o : Obj) (blk : Blk) (m : Option Nat) :
    Ext w G H (w.alloc o) ⟨upd G.σ b w.heap.size, upd G.W w.heap.size m⟩ (setB H b blk) where
  keep := Keep.alloc w G.W o m
  live c hc := by
    rw [getB_setB]
    by_cases h : c = b
    · subst h; exact absurd hd hc
    · rwa [if_neg h]
  mem c ver' cells' hc he := by
    rw [getB_setB] at he
    by_cases h : c = b
    · subst h; exact absurd hd hc
    · rw [if_neg h] at he
      refine ⟨ver', cells', he, Nat.le_refl _, fun _ => ⟨upd_other _ _ _ _ h, fun cs hcs => ⟨cs, hcs.of_heap (heap_lt_old hcs.lt), rfl⟩⟩⟩
  tok c sz n' hc he := by
    rw [getB_setB] at he
    by_cases h : c = b
    · subst h; exact absurd hd hc
    · rw [if_neg h] at he
      refine ⟨n', he, Nat.le_refl _, fun _ => ⟨upd_other _ _ _ _ h, fun cs hcs => ⟨cs, hcs.of_heap (heap_lt_old hcs.lt), rfl⟩⟩⟩
  map c es' hc he := by
    rw [getB_setB] at he
    by_cases h : c = b
    · subst h; exact absurd hd hc
    · rw [if_neg h] at he
      exact ⟨es', he, upd_other _ _ _ _ h⟩

theorem HS.lt {G H w} (h : HS G H w) (c : Nat) (ha : (getB H c).act) : G.σ c < w.heap.size := (h.blk c).lt ha

theorem HS.alloc {G H w} (h : HS G H w) {b : Nat} (hd : getB H b = .dead) (o : Obj) (blk : Blk) (m : Option Nat)
    (hb : BR (w.alloc o) ⟨upd G.σ b w.heap.size, upd G.W w.heap.size m⟩ (setB H b blk) b blk) :
    HS ⟨upd G.σ b w.heap.size, upd G.W w.heap.size m⟩ (setB H b blk) (w.alloc o) := by
  refine h.turn (Ext.alloc h.lt hd o blk m) hb (fun c hc => upd_other _ _ _ _ hc) (fun c hc ha => ⟨heap_lt_old (h.lt c ha), upd_other _ _ _ _ ?_⟩) (fun c hc ha _ => ?_)
  · have := h.lt c ha; omega
  · show upd G.σ b w.heap.size b ≠ _
    rw [upd_same]; have := h.lt c ha; omega

theorem T.alloc {w : World} {G : Gh} {H : List Blk} (hlt : ∀ c, (getB H c).act → G.σ c < w.heap.size) {b : Nat} (hd : getB H b = .dead) (o : Obj) (blk : Blk) (m : Option Nat) :
    T w G H (w.alloc o) ⟨upd G.σ b w.heap.size, upd G.W w.heap.size m⟩ (setB H b blk) where
  ext := Ext.alloc hlt hd o blk m
  os := rfl
  tape := rfl
  output := rfl
  size := by simp
  own c hc := by
    rw [getB_setB] at hc
    by_cases h1 : c = b
    · subst h1; right; show _ ≤ upd G.σ c _ c; rw [upd_same]; exact Nat.le_refl _
    · rw [if_neg h1] at hc; exact .inl ⟨hc, upd_other _ _ _ _ h1⟩
  frame g hg _ := ⟨heap_lt_old hg, upd_other _ _ _ _ (by omega)⟩

/-- A world in which nothing but draws has happened. -/
theorem Ext.drew (w : World) (G : Gh) (H : List Blk) : Ext w G H w.drew G H :=
  ⟨⟨fun _ _ _ h i => ⟨h, i⟩⟩, fun _ h => h, fun b ver' cells' _ h => ⟨ver', cells', h, Nat.le_refl _, fun _ => ⟨rfl, fun cs h => ⟨cs, h, rfl⟩⟩⟩,
   fun b sz n' _ h => ⟨n', h, Nat.le_refl _, fun _ => ⟨rfl, fun cs h => ⟨cs, h, rfl⟩⟩⟩, fun b es' _ h => ⟨es', h, rfl⟩⟩
theorem T.drew (w : World) (G : Gh) (H : List Blk) : T w G H w.drew G H :=
  ⟨Ext.drew w G H, rfl, rfl, rfl, Nat.le_refl _, fun _ h => .inl ⟨h, rfl⟩, fun _ _ _ => ⟨rfl, rfl⟩⟩
theorem HS.of_ext {G H w w'} (h : HS G H w) (hx : Ext w G H w' G H) (hh : ∀ c, (getB H c).act → w'.heap[G.σ c]? = w.heap[G.σ c]?) : HS G H w' :=
  ⟨fun c => BR.ext hx (h.blk c) (fun ha => ⟨rfl, hh c ha, rfl⟩), h.inj⟩
theorem HS.drew {G H w} (h : HS G H w) : HS G H w.drew := h.of_ext (Ext.drew w G H) (fun _ _ => rfl)

/-! ### A block that is written in place -/
/-- What the block's row has become: a world like w but for block g. -/
structure Wrote (w w' : World) (g : Nat) (cs' : Array Value) : Prop where
  os : w'.os = w.os
  tape : w'.tape = w.tape
  output : w'.output = w.output
  size : w'.heap.size = w.heap.size
  other : ∀ k, k ≠ g → w'.heap[k]? = w.heap[k]?
  here : Holds w' g cs'

theorem Wrote.setRow {w : World} {g : Nat} {cs : Array Value} (h : Holds w g cs) (cs' : Array Value) : Wrote w (w.setRow g cs') g cs' := by
  obtain ⟨ty, h⟩ := h
  exact ⟨rfl, rfl, rfl, by simp [World.setRow], fun k hk => setRow_other w g k _ hk, ⟨ty, setRow_heap w g cs cs' ty (0, 0) h⟩⟩

/-- How far a written block's row keeps what is immutable. -/
theorem Keep.wrote {w w' : World} {W : Nat → Option Nat} {g m m' : Nat} {cs cs' : Array Value} (h : Wrote w w' g cs') (hh : Holds w g cs) (hW : W g = some m) (hm : m ≤ m')
    (hc : ∀ i, i < m → cs'[i]? = cs[i]?) : Keep w W w' (upd W g (some m')) :=
  ⟨fun k o v hv hi => by
    by_cases hk : k = g
    · subst hk
      have ho := hi m hW
      refine ⟨?_, fun q hq => ?_⟩
      · rw [h.here.cell, hc o ho, ← hh.cell]; exact hv
      · rw [upd_same] at hq; injection hq with hq; omega
    · refine ⟨?_, fun q hq => hi q ?_⟩
      · rw [World.cell?_of_block (w := w) (h.other k hk)]; exact hv
      · rwa [upd_other _ _ _ _ hk] at hq⟩

theorem Ext.wrote {w w' : World} {G : Gh} {H : List Blk} {b : Nat} {blk : Blk} {m m' : Nat} {cs cs' : Array Value} (h : Wrote w w' (G.σ b) cs') (hh : Holds w (G.σ b) cs) (hz : cs'.size = cs.size)
    (hW : G.W (G.σ b) = some m) (hm : m ≤ m') (hc : ∀ i, i < m → cs'[i]? = cs[i]?) (hnd : blk ≠ .dead)
    (hmem : ∀ ver' cells', blk = .mem ver' cells' → ∃ ver cells, getB H b = .mem ver cells ∧ ver ≤ ver')
    (htok : ∀ sz n', blk = .tok sz n' → ∃ n, getB H b = .tok sz n ∧ n ≤ n')
    (hmap : ∀ es', blk = .map es' → ∃ es, getB H b = .map es) :
    Ext w G H w' ⟨G.σ, upd G.W (G.σ b) (some m')⟩ (setB H b blk) where
  keep := Keep.wrote h hh hW hm hc
  live c hc := by
    rw [getB_setB]; split
    · exact hnd
    · exact hc
  mem c ver' cells' hd he := by
    have hsame : ∀ cs0, Holds w (G.σ c) cs0 → ∃ cs1, Holds w' (G.σ c) cs1 ∧ cs1.size = cs0.size := fun cs0 h0 => by
      by_cases hk : G.σ c = G.σ b
      · rw [hk] at h0 ⊢
        obtain rfl := h0.uniq hh
        exact ⟨cs', h.here, hz⟩
      · exact ⟨cs0, h0.of_heap (h.other _ hk), rfl⟩
    rw [getB_setB] at he
    by_cases hcb : c = b
    · subst hcb
      rw [if_pos rfl] at he
      obtain ⟨ver, cells, e, l⟩ := hmem ver' cells' he
      exact ⟨ver, cells, e, l, fun _ => ⟨rfl, hsame⟩⟩
    · rw [if_neg hcb] at he
      exact ⟨ver', cells', he, Nat.le_refl _, fun _ => ⟨rfl, hsame⟩⟩
  tok c sz n' hd he := by
    have hsame : ∀ cs0, Holds w (G.σ c) cs0 → ∃ cs1, Holds w' (G.σ c) cs1 ∧ cs1.size = cs0.size := fun cs0 h0 => by
      by_cases hk : G.σ c = G.σ b
      · rw [hk] at h0 ⊢
        obtain rfl := h0.uniq hh
        exact ⟨cs', h.here, hz⟩
      · exact ⟨cs0, h0.of_heap (h.other _ hk), rfl⟩
    rw [getB_setB] at he
    by_cases hcb : c = b
    · subst hcb
      rw [if_pos rfl] at he
      obtain ⟨n, e, l⟩ := htok sz n' he
      exact ⟨n, e, l, fun _ => ⟨rfl, hsame⟩⟩
    · rw [if_neg hcb] at he
      exact ⟨n', he, Nat.le_refl _, fun _ => ⟨rfl, hsame⟩⟩
  map c es' hd he := by
    rw [getB_setB] at he
    by_cases hcb : c = b
    · subst hcb
      rw [if_pos rfl] at he
      obtain ⟨es, e⟩ := hmap es' he
      exact ⟨es, e, rfl⟩
    · rw [if_neg hcb] at he
      exact ⟨es', he, rfl⟩

theorem HS.wrote {G H w w'} (h0 : HS G H w) {b : Nat} {blk : Blk} {m' : Nat} {cs' : Array Value} (h : Wrote w w' (G.σ b) cs') (hact : (getB H b).act)
    (hx : Ext w G H w' ⟨G.σ, upd G.W (G.σ b) (some m')⟩ (setB H b blk))
    (hb : BR w' ⟨G.σ, upd G.W (G.σ b) (some m')⟩ (setB H b blk) b blk) :
    HS ⟨G.σ, upd G.W (G.σ b) (some m')⟩ (setB H b blk) w' := by
  refine h0.turn hx hb (fun _ _ => rfl) (fun c hc ha => ?_) (fun c hc ha _ he => hc (h0.inj b c hact ha he).symm)
  have hne : G.σ c ≠ G.σ b := fun e => hc (h0.inj c b ha hact e)
  exact ⟨h.other _ hne, upd_other _ _ _ _ hne⟩

theorem T.wrote {G H w w'} {b : Nat} {blk : Blk} {m' : Nat} {cs' : Array Value} (h : Wrote w w' (G.σ b) cs') (hact : (getB H b).act)
    (hx : Ext w G H w' ⟨G.σ, upd G.W (G.σ b) (some m')⟩ (setB H b blk)) : T w G H w' ⟨G.σ, upd G.W (G.σ b) (some m')⟩ (setB H b blk) where
  ext := hx
  os := h.os
  tape := h.tape
  output := h.output
  size := by rw [h.size]; exact Nat.le_refl _
  own c hc := by
    rw [getB_setB] at hc
    by_cases h1 : c = b
    · subst h1; exact .inl ⟨hact, rfl⟩
    · rw [if_neg h1] at hc; exact .inl ⟨hc, rfl⟩
  frame g hg hn := by
    have : g ≠ G.σ b := fun e => hn b hact e.symm
    exact ⟨h.other g this, upd_other _ _ _ _ this⟩

end Go.Vm
