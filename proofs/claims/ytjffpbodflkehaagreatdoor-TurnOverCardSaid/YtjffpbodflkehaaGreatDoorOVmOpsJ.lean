/- Operations of the machine: append to, copy into, clear slices that are written in place. -/
import Derived.Test.YtjffpbodflkehaaGreatDoorOVmOpsI
set_option linter.unusedVariables false
set_option linter.unusedSimpArgs false
namespace Go.Vm
open Go.RowKit

section
variable {P : Program} {o : Oper} {ρ : Operand → Value} {w : World} {G : Gh} {H : List Blk} {pc : Nat → List D → Option D} {base : Nat}

theorem src_run {sz : Nat} {y : V} {v : Value} {k : List V → Eff} {r : V} {H' : List Blk} (h : (src sz y k).run H = some (r, H')) (hv : RV w G H y v) (hs : HS G H w) :
    ∃ n new news, Src P w sz n v news ∧ RVs w G H new news ∧ (k new).run H = some (r, H') := by
  unfold src at h
  split at h
  · rename_i b ver sz' off len
    simp only [Eff.run] at h
    split at h
    · rename_i ver' cells hb
      split at h
      · rename_i hc
        obtain ⟨rfl, rfl, hfit⟩ := hc
        obtain ⟨vs, h1, h2, _⟩ := Src.mem (P := P) hs hb hv hfit
        exact ⟨len, _, _, h1, h2.take _, h⟩
      · simp only [Eff.run] at h; cases h
    · simp only [Eff.run] at h; cases h
  · rename_i s
    split at h
    · rename_i h1
      subst h1
      have hp := RVstr hv
      subst hp
      refine ⟨s.length, s.map fun b => .d (.int .u8 b.toNat), s.map fun b => .int .u8 b.toNat, Src.str, ?_, h⟩
      clear h hv
      induction s with
      | nil => simp [RVs_nil]
      | cons b s ih =>
        simp only [List.map_cons]
        exact RVs_cons.2 ⟨_, _, rfl, by simp only [RV, RD], ih⟩
    · simp only [Eff.run] at h; cases h
  · split at h
    · rename_i rows hr
      split at h
      · rename_i hall
        have hsz : ∀ x, x ∈ rows → x.length = sz := RD_sized (rowsOf_ok hr hv) hall
        obtain ⟨news, h1, h2⟩ := Src.rows (P := P) (rowsOf_ok hr hv) hsz
        exact ⟨rows.length, _, news, h1, RVs_map_d.2 h2, h⟩
      · simp only [Eff.run] at h; cases h
    · simp only [Eff.run] at h; cases h

theorem Src.count {sz n : Nat} {v : Value} {news : List Value} {new : List V} (hs : Src P w sz n v news) (hr : RVs w G H new news) (hp : 0 < sz) : new.length / sz = n ∧ new.length = n * sz := by
  have h1 := hr.length
  have h2 := hs.size
  have : new.length = n * sz := by omega
  exact ⟨by rw [this]; exact Nat.mul_div_cancel n hp, this⟩

/-- A block's cells, told as rows. -/
theorem BR.mem {b ver : Nat} {cells : List V} {cs : Array Value} (hh : Holds w (G.σ b) cs) (hW : G.W (G.σ b) = some 0) {vs : List Value} (hr : RVs w G H cells vs) (ho : Ones vs) (hc : ∀ (i : Nat) (v : Value), vs[i]? = some v → cs[i]? = some v) :
    BR w G H b (.mem ver cells) := by
  refine ⟨cs, hh, ?_, hW, fun i x hi => ?_⟩
  · rcases Nat.lt_or_ge cs.size cells.length with h | h
    · exfalso
      have hl : cs.size < vs.length := by rw [hr.length]; exact h
      have h1 := hc cs.size _ (List.getElem?_eq_getElem hl)
      simp at h1
    · exact h
  · obtain ⟨v, hv, h⟩ := hr.get hi
    exact ⟨v, hc i v hv, ho.get hv, h⟩

/-- append to a slice that is written in place, where a new row is taken. -/
theorem appA_grow {t u e : TypeId} {i : TypeInfo} {z : Value} {sz bytes : Nat} (hE : El P t e i z sz bytes) (hu : okTail P u = true) {x y : Operand} {base' : Option Addr} {len m : Nat} {cells new : List V} {old news : List Value} {c q ver : Nat}
    (hrun : ∀ {v : Value} {w' : World}, (Builtin.append_ #[t, u] o.type #[ρ x, ρ y]).run P w = .ok v w' → (execOp ρ o).run P w = .ok (.value v) w')
    (hp : ρ x = .slice base' len c) (hc : c < len + m)
    (hold : Src P w sz len (ρ x) old) (hro : RVs w G H cells old)
    (hsrc : Src P w sz m (ρ y) news) (hrn' : RVs w G H new news)
    (hby : (len + m) * bytes ≤ maxBytes) (hs : HS G H w)
    (hq : (getB H q = .dead ∧ ver = 0) ∨ ∃ ver0 cells0, getB H q = .mem ver0 cells0 ∧ ver0 < ver) :
    Does P (execOp ρ o) w (Post w G H (setB H q (.mem ver (cells ++ new))) (.arr q ver sz 0 (len + m))) := by
  have hrn := run_app_grow (P := P) (w := w) (ty := o.type) hE hu hsrc hc (fun w' hw => by
    have := hold.cells w' hw len (Nat.le_refl _)
    rw [← hold.size, List.take_length] at this
    rw [← hp]; exact this) hby
  rw [← hp] at hrn
  have hcap := grownCap_ge w (len + m) c e
  have hzs : (old.toArray ++ news.toArray ++ Builtin.zeroCells z.cells (grownCap w (len + m) c e - (len + m))).size = grownCap w (len + m) c e * sz := by
    have hl : (old ++ news).length = (len + m) * sz := by rw [List.length_append, hold.size, hsrc.size, Nat.add_mul]
    have := grow_size (w := w) (k := 0) (need := len + m) (old := c) (e := e) hE.cells hl rfl
    simpa using this
  have hC : ∀ (j : Nat) (v : Value), (old ++ news)[j]? = some v → (old.toArray ++ news.toArray ++ Builtin.zeroCells z.cells (grownCap w (len + m) c e - (len + m)))[j]? = some v := fun j v hj => by
    have hlt := (List.getElem?_eq_some_iff.1 hj).1
    rw [Array.getElem?_append_left (by simpa using hlt)]
    simpa using hj
  revert hrn hzs hC
  generalize old.toArray ++ news.toArray ++ Builtin.zeroCells z.cells (grownCap w (len + m) c e - (len + m)) = C
  intro hrn hzs hC
  have hh : Holds (w.drew.alloc (.cells C e)) w.drew.heap.size C := ⟨e, heap_alloc_new w.drew _⟩
  have hx : Ext w.drew G H (w.drew.alloc (.cells C e)) ⟨upd G.σ q w.drew.heap.size, upd G.W w.drew.heap.size (some 0)⟩ (setB H q (.mem ver (cells ++ new))) := by
    rcases hq with ⟨hq, _⟩ | ⟨v0, c0, hq, hlt⟩
    · exact Ext.alloc hs.drew.lt hq _ _ _
    · exact Ext.realloc hs.drew _ _ _ (by simp) (fun _ _ e => by cases e; exact ⟨_, _, hq, hlt⟩) (fun _ _ e => by cases e) (fun _ e => by cases e)
  have hb : BR (w.drew.alloc (.cells C e)) ⟨upd G.σ q w.drew.heap.size, upd G.W w.drew.heap.size (some 0)⟩ (setB H q (.mem ver (cells ++ new))) q (.mem ver (cells ++ new)) := by
    refine BR.mem (cs := C) (by show Holds _ (upd G.σ q w.drew.heap.size q) C; rw [upd_same]; exact hh) (by show upd G.W _ _ (upd G.σ q w.drew.heap.size q) = _; rw [upd_same, upd_same]) (vs := old ++ news) ?_ (Ones.append hold.ones hsrc.ones) hC
    exact RVs.ext ((Ext.drew w G H).trans hx) _ _ (RVs.append hro hrn')
  have hst : HS ⟨upd G.σ q w.drew.heap.size, upd G.W w.drew.heap.size (some 0)⟩ (setB H q (.mem ver (cells ++ new))) (w.drew.alloc (.cells C e)) ∧ T w.drew G H (w.drew.alloc (.cells C e)) ⟨upd G.σ q w.drew.heap.size, upd G.W w.drew.heap.size (some 0)⟩ (setB H q (.mem ver (cells ++ new))) := by
    rcases hq with ⟨hq, _⟩ | ⟨v0, c0, hq, hlt⟩
    · exact ⟨hs.drew.alloc hq _ _ _ hb, T.alloc hs.drew.lt hq _ _ _⟩
    · exact realloc hs.drew hx hb
  refine Does.value (hrun hrn) ⟨_, ?_, hst.1, (T.drew w G H).trans hst.2⟩
  simp only [RV]
  refine ⟨⟨_, _, rfl, hcap⟩, by rw [getB_setB, if_pos rfl]; simp, fun ver' cells' he => ?_⟩
  rw [getB_setB, if_pos rfl] at he
  cases he
  exact ⟨Nat.le_refl _, fun _ => ⟨_, _, C, rfl, hcap, fun _ => by rw [upd_same]; rfl, by rw [upd_same]; rfl, by rw [upd_same]; exact hh, by omega⟩⟩

theorem op_appA {t u : TypeId} {b sz bytes : Nat} {x y : Operand} {xs : List V} (ho : o.op = .call { callee := .builtin .append, args := #[x, y], argTypes := #[t, u] }) (hk : okEl P t sz bytes = true) (hu : okTail P u = true)
    (hx : RVs w G H xs [ρ x, ρ y]) (hs : HS G H w) : Good P o ρ w G H (act pc base (.appA b sz bytes) xs) := by
  obtain ⟨vx, vy, rfl, h1, h2⟩ := RVs2 hx
  obtain ⟨e, i, z, hE⟩ := okEl_ok hk
  simp only [act, a2, aAppA]
  intro r H' eq
  have q0 := src_run (P := P) eq h2 hs
  clear eq
  obtain ⟨m, new, news, hsrc, hrn, eq⟩ := q0
  obtain ⟨hm, hnl⟩ := hsrc.count hrn hE.spos
  rw [hm] at eq
  have hrun : ∀ {v : Value} {w' : World}, (Builtin.append_ #[t, u] o.type #[ρ x, ρ y]).run P w = .ok v w' → (execOp ρ o).run P w = .ok (.value v) w' := fun h => by
    simp [execOp, ho, resolve, invoke, builtin, h]
  have hsame : ∀ {A : Option Addr}, ρ x = .slice A 0 0 → m = 0 → Does P (execOp ρ o) w (Post w G H H vx) := fun {A} hp h0 => by
    subst h0
    have hn : news = [] := List.eq_nil_of_length_eq_zero (by rw [hsrc.size]; simp)
    subst hn
    have := run_app_room (P := P) (w := w) (ty := o.type) hE hu hsrc (base := A) (sLen := 0) (sCap := 0) (Nat.le_refl _)
    rw [← hp] at this
    refine Does.value (hrun (v := ρ x) (w' := w) ?_) (Post.ret h1 hs)
    rw [this, hp]
    cases A <;> simp [storeCells]
  have hfirst : ∀ {A : Option Addr}, ρ x = .slice A 0 0 → m ≠ 0 → m * bytes ≤ maxBytes → ∀ {q : Nat}, getB H q = .dead → Does P (execOp ρ o) w (Post w G H (setB H q (.mem 0 new)) (.arr q 0 sz 0 m)) := fun {A} hp h0 hby q hq => by
    have := appA_grow (P := P) (o := o) (ρ := ρ) (G := G) (H := H) (len := 0) (cells := []) (old := []) (q := q) (ver := 0) hE hu hrun hp (by omega)
      (by rw [hp]; exact Src.slice (g := 0) (p := 0) (fun h => by omega) (by simp) (fun j v hj => by simp at hj) (fun u hu => by cases hu)) (by simp [RVs_nil]) hsrc hrn (by simpa using hby) hs (.inl ⟨hq, rfl⟩)
    simpa using this
  split at eq
  · rename_i q ver sz' off len
    simp only [Eff.run, Option.map_eq_some_iff] at eq
    obtain ⟨⟨blk, v⟩, eq, e1⟩ := eq
    simp only [Prod.mk.injEq] at e1
    obtain ⟨rfl, rfl⟩ := e1
    split at eq
    · rename_i ver' cells hb
      split at eq
      · cases eq
      · rename_i hcond
        have hv : ver = ver' := Decidable.byContradiction fun h => hcond (.inl h)
        have hz : sz' = sz := Decidable.byContradiction fun h => hcond (.inr (.inl h))
        have hfit : off + len * sz ≤ cells.length := Nat.not_lt.1 fun h => hcond (.inr (.inr (.inl h)))
        have hby : (len + m) * bytes ≤ maxBytes := Nat.not_lt.1 fun h => hcond (.inr (.inr (.inr h)))
        subst hv hz
        have hvx := h1
        simp only [RV] at hvx
        obtain ⟨_, _, hvx⟩ := hvx
        obtain ⟨a, cap, cs, hp, hlc, ha, hab, hh, hcap⟩ := (hvx _ _ hb).2 rfl
        obtain ⟨cs', hh', hcl, hW, hrc, hone⟩ := BR.read hs hb
        obtain rfl := hh.uniq hh'
        have hact : (getB H q).act := by rw [hb]; trivial
        split at eq
        · rename_i hroom
          simp only [Option.some.injEq, Prod.mk.injEq] at eq
          obtain ⟨rfl, rfl⟩ := eq
          have hfit' : off + len * sz' + new.length ≤ cells.length := hroom
          have hle : len + m ≤ cap := by
            have : (len + m) * sz' ≤ cap * sz' := by rw [Nat.add_mul, ← hnl]; omega
            exact Nat.le_of_mul_le_mul_right this hE.spos
          have hrn0 := run_app_room (P := P) (w := w) (ty := o.type) hE hu hsrc (base := some a) (sLen := len) (sCap := cap) hle
          rw [← hp] at hrn0
          by_cases h0 : cap = 0
          · -- nothing at all
            have hl0 : len = 0 := by omega
            have hm0 : m = 0 := by omega
            subst hl0 hm0
            have hn : news = [] := List.eq_nil_of_length_eq_zero (by rw [hsrc.size]; simp)
            subst hn
            have hne : new = [] := List.eq_nil_of_length_eq_zero (by rw [hnl]; simp)
            subst hne
            obtain ⟨_, w', _, hw', _, hs', hT⟩ := write_mem hs hb (off := off + 0 * sz') (c := []) (vs := []) (by simp [RVs_nil]) (fun u hu => by cases hu) hfit'
            have hself : Ext w G H w ⟨G.σ, upd G.W (G.σ q) (some 0)⟩ (setB H q (.mem ver (splice cells (off + 0 * sz') []))) := by
              have hw : Wrote w w (G.σ q) cs := ⟨rfl, rfl, rfl, rfl, fun _ _ => rfl, hh⟩
              exact Ext.wrote hw hh rfl hW (Nat.le_refl _) (fun _ _ => rfl) (by simp) (fun _ _ e => by cases e; exact ⟨_, _, hb, Nat.le_refl _⟩) (fun _ _ e => by cases e) (fun _ e => by cases e)
            have hw : Wrote w w (G.σ q) cs := ⟨rfl, rfl, rfl, rfl, fun _ _ => rfl, hh⟩
            refine Does.value (hrun (v := ρ x) (w' := w) ?_) ⟨_, ?_, hs.wrote hw hact hself (BR.mem (cs := cs) hh (upd_same _ _ _) (vs := cs.toList.take cells.length) ?_ hone (fun j v hj => ?_)), T.wrote hw hact hself⟩
            · rw [hrn0, hp]; simp [storeCells]
            · exact RV.ext hself _ _ h1
            · have h9 : splice cells (off + 0 * sz') [] = cells := by simp [splice]
              rw [h9] at hself ⊢; exact RVs.ext hself _ _ hrc
            · rw [List.getElem?_take] at hj
              split at hj
              · simpa using hj
              · cases hj
          · have ha' := ha (Nat.pos_of_ne_zero h0)
            subst ha'
            obtain ⟨cs0, w', hh0, hw', hf, hs', hT⟩ := write_mem hs hb (off := off + len * sz') hrn (fun u hu => hsrc.ones u hu) hfit'
            obtain rfl := hh.uniq hh0
            have hst := storeCells_run (P := P) (w := w) hh hf (fun v hv => hsrc.ones v hv)
            simp only [add_lit', hst, Result.andThen_ok] at hrn0
            rw [← hw'] at hrn0
            refine Does.value (hrun hrn0) ⟨_, ?_, hs', hT⟩
            simp only [RV]
            refine ⟨⟨_, _, rfl, hle⟩, by rw [getB_setB, if_pos rfl]; simp, fun ver' cells' he => ?_⟩
            rw [getB_setB, if_pos rfl] at he
            cases he
            refine ⟨Nat.le_refl _, fun _ => ⟨_, _, spliceA cs (off + len * sz') news, rfl, hle, fun _ => rfl, rfl, ?_, by rw [spliceA_size hf]; exact hcap⟩⟩
            rw [hw']; exact (Wrote.setRow hh _).here
        · split at eq
          · rename_i hnroom hq
            obtain ⟨hoff, hcl'⟩ := hq
            subst hoff
            simp only [Option.some.injEq, Prod.mk.injEq] at eq
            obtain ⟨rfl, rfl⟩ := eq
            have hm0 : 0 < new.length := by omega
            have hmp : 0 < m := by
              rcases Nat.eq_zero_or_pos m with h | h
              · subst h; omega
              · exact h
            obtain ⟨vs, hold, _, _⟩ := Src.mem (P := P) hs hb h1 hfit
            by_cases hle : len + m ≤ cap
            · have ha' := ha (by omega)
              subst ha'
              have hrn0 := run_app_room (P := P) (w := w) (ty := o.type) hE hu hsrc (base := some ⟨G.σ q, 0, none⟩) (sLen := len) (sCap := cap) hle
              rw [← hp] at hrn0
              have hmul := Nat.mul_le_mul_right sz' hle
              rw [Nat.add_mul] at hmul
              have hf : len * sz' + news.length ≤ cs.size := by rw [hsrc.size]; omega
              have hst := storeCells_run (P := P) (w := w) hh hf (fun v hv => hsrc.ones v hv)
              simp only [add_lit', Nat.zero_add, hst, Result.andThen_ok] at hrn0
              have hw := Wrote.setRow hh (spliceA cs (len * sz') news)
              have hxx : Ext w G H (w.setRow (G.σ q) (spliceA cs (len * sz') news)) ⟨G.σ, upd G.W (G.σ q) (some 0)⟩ (setB H q (.mem (ver + 1) (cells ++ new))) :=
                Ext.wrote hw hh (spliceA_size hf) hW (Nat.le_refl _) (fun j hj => absurd hj (Nat.not_lt_zero _)) (by simp) (fun _ _ e => by cases e; exact ⟨_, _, hb, by omega⟩) (fun _ _ e => by cases e) (fun _ e => by cases e)
              have hbr : BR (w.setRow (G.σ q) (spliceA cs (len * sz') news)) ⟨G.σ, upd G.W (G.σ q) (some 0)⟩ (setB H q (.mem (ver + 1) (cells ++ new))) q (.mem (ver + 1) (cells ++ new)) := by
                refine BR.mem hw.here (upd_same _ _ _) (vs := cs.toList.take cells.length ++ news) (RVs.ext hxx _ _ (RVs.append hrc hrn)) (Ones.append hone hsrc.ones) (fun j v hj => ?_)
                have hl1 : (cs.toList.take cells.length).length = len * sz' := by simp; omega
                rw [spliceA_get hf]
                rw [List.getElem?_append] at hj
                split at hj
                · rename_i hlt
                  rw [if_neg (by omega)]
                  rw [List.getElem?_take] at hj
                  split at hj
                  · simpa using hj
                  · cases hj
                · rename_i hge
                  have hlt := (List.getElem?_eq_some_iff.1 hj).1
                  rw [if_pos (by omega)]
                  rw [hl1] at hj; exact hj
              refine Does.value (hrun hrn0) ⟨_, ?_, hs.wrote hw hact hxx hbr, T.wrote hw hact hxx⟩
              simp only [RV]
              refine ⟨⟨_, _, rfl, hle⟩, by rw [getB_setB, if_pos rfl]; simp, fun ver' cells' he => ?_⟩
              rw [getB_setB, if_pos rfl] at he
              cases he
              exact ⟨Nat.le_refl _, fun _ => ⟨_, _, _, rfl, hle, fun _ => rfl, rfl, hw.here, by rw [spliceA_size hf]; omega⟩⟩
            · have hro : RVs w G H cells (vs.take (len * sz')) := by
                have := hold.size
                obtain ⟨vs', h1', h2', h3'⟩ := Src.mem (P := P) hs hb h1 hfit
                have hd0 : cells.drop 0 = cells := rfl
                rw [hd0] at h2'
                have e1 := hold.cells w rfl len (Nat.le_refl _)
                have e2 := h1'.cells w rfl len (Nat.le_refl _)
                rw [e1] at e2
                have e3 : (vs.take (len * sz')) = vs'.take (len * sz') := by
                  have := congrArg (fun r => match r with | Result.ok a _ => a.toList | _ => []) e2
                  simp only [List.take_take, Nat.min_self] at this
                  exact this
                rw [e3, List.take_of_length_le (by have := h2'.length; omega)]
                exact h2'
              exact appA_grow hE hu hrun hp (by omega) hold hro hsrc hrn hby hs (.inr ⟨_, _, hb, by omega⟩)
          · cases eq
    · cases eq
  · have hp : ρ x = .slice none 0 0 := by simpa only [RV] using h1
    split at eq
    · rename_i h0
      simp only [Eff.run, Option.map_some, Option.some.injEq, Prod.mk.injEq] at eq
      obtain ⟨rfl, rfl⟩ := eq
      exact hsame hp h0
    · rename_i h0
      split at eq
      · rename_i hby
        obtain ⟨hd', rfl, rfl⟩ := fresh_put eq
        exact hfirst hp h0 hby hd'
      · simp only [Eff.run] at eq; cases eq
  · have hp : ∃ A, ρ x = .slice A 0 0 := by simpa only [RV] using h1
    obtain ⟨A, hp⟩ := hp
    split at eq
    · rename_i h0
      simp only [Eff.run, Option.map_some, Option.some.injEq, Prod.mk.injEq] at eq
      obtain ⟨rfl, rfl⟩ := eq
      exact hsame hp h0
    · rename_i h0
      split at eq
      · rename_i hby
        obtain ⟨hd', rfl, rfl⟩ := fresh_put eq
        exact hfirst hp h0 hby hd'
      · simp only [Eff.run] at eq; cases eq
  · simp only [Eff.run] at eq; cases eq
end
end Go.Vm
