/- Operations of the machine: slices of bytes that are sealed; structs, slices that are built. -/
import Derived.Test.YtjffpbodflkehaaGreatDoorOVmOpsE
set_option linter.unusedVariables false
set_option linter.unusedSimpArgs false
namespace Go.Vm
open Go.RowKit

section
variable {P : Program} {o : Oper} {ρ : Operand → Value} {w : World} {G : Gh} {H : List Blk} {pc : Nat → List D → Option D} {base : Nat}

/-! ### A block that is let go: its cells stay -/
theorem letgo (hs : HS G H w) {b ver : Nat} {cells : List V} (hb : getB H b = .mem ver cells) {cs : Array Value} (hh : Holds w (G.σ b) cs) {w' : World}
    (hos : w'.os = w.os) (htape : w'.tape = w.tape) (hout : w'.output = w.output) (hsize : w'.heap.size = w.heap.size) (hother : ∀ k, k ≠ G.σ b → w'.heap[k]? = w.heap[k]?)
    (hcell : ∀ i, w'.cell? ⟨G.σ b, i, none⟩ = cs[i]?) :
    T w G H w' ⟨G.σ, upd G.W (G.σ b) none⟩ (setB H b .gone) ∧ HS ⟨G.σ, upd G.W (G.σ b) none⟩ (setB H b .gone) w' := by
  have hx : Ext w G H w' ⟨G.σ, upd G.W (G.σ b) none⟩ (setB H b .gone) := by
    refine ⟨⟨fun k p v hv hi => ?_⟩, fun c hc => ?_, fun c ver' cells' hd he => ?_, fun c sz n' hd he => ?_, fun c es' hd he => ?_⟩
    · by_cases hk : k = G.σ b
      · subst hk
        refine ⟨by rw [hcell, ← hh.cell]; exact hv, fun m hm => ?_⟩
        have hm : upd G.W (G.σ b) none (G.σ b) = some m := hm
        rw [upd_same] at hm; cases hm
      · refine ⟨by rw [World.cell?_of_block (w := w) (hother k hk)]; exact hv, fun m hm => hi m ?_⟩
        have hm : upd G.W (G.σ b) none k = some m := hm
        rwa [upd_other _ _ _ _ hk] at hm
    · rw [getB_setB]; split
      · simp
      · exact hc
    all_goals
      rw [getB_setB] at he
      split at he
      · cases he
      · rename_i hcb
        have hk : ∀ cs, (getB H c).act → Holds w (G.σ c) cs → ∃ cs', Holds w' (G.σ c) cs' ∧ cs'.size = cs.size := fun cs0 ha h0 =>
          ⟨cs0, h0.of_heap (hother _ (fun e => hcb (hs.inj c b ha (by rw [hb]; trivial) e))), rfl⟩
        first
          | exact ⟨_, _, he, Nat.le_refl _, fun _ => ⟨rfl, fun cs0 h0 => hk cs0 (by rw [he]; trivial) h0⟩⟩
          | exact ⟨_, he, Nat.le_refl _, fun _ => ⟨rfl, fun cs0 h0 => hk cs0 (by rw [he]; trivial) h0⟩⟩
          | exact ⟨_, he, rfl⟩
  have hact : (getB H b).act := by rw [hb]; trivial
  refine ⟨⟨hx, hos, htape, hout, by rw [hsize]; exact Nat.le_refl _, fun c hc => ?_, fun g hg hn => ?_⟩, hs.turn hx (by trivial) (fun _ _ => rfl) (fun c hc ha => ?_) (fun c hc ha h => h.elim)⟩
  · rw [getB_setB] at hc
    split at hc
    · exact hc.elim
    · exact .inl ⟨hc, rfl⟩
  · have hne : g ≠ G.σ b := fun e => hn b hact e.symm
    exact ⟨hother g hne, upd_other _ _ _ _ hne⟩
  · have hne : G.σ c ≠ G.σ b := fun e => hc (hs.inj c b ha hact e)
    exact ⟨hother _ hne, upd_other _ _ _ _ hne⟩

theorem op_same {s d : TypeId} {x : Operand} {xs : List V} (ho : o.op = .convert s d x) (h1 : okStr P s = true) (h2 : okStr P d = true) (hx : RVs w G H xs [ρ x]) (hs : HS G H w) : Good P o ρ w G H (act pc base .same xs) := by
  obtain ⟨vx, rfl, hv⟩ := RVs1 hx
  have hu := okStr_ok h1
  have hd := okStr_ok h2
  simp only [act, a1, aSame]
  refine Good.opt hs fun r e => ?_
  split at e
  · rename_i l
    cases e
    have hp := RVstr hv
    exact ⟨_, by simp [execOp, ho, hp, convert, run_underlying hu, run_underlying hd]; rfl, by rw [← hp]; exact hv⟩
  · cases e

theorem op_sealB {s : TypeId} {x : Operand} {sz : Nat} {xs : List V} (ho : o.op = .convert s s x) (h1 : okBytes P s = true) (hx : RVs w G H xs [ρ x]) (hs : HS G H w) : Good P o ρ w G H (act pc base (.sealB sz) xs) := by
  obtain ⟨vx, rfl, hv⟩ := RVs1 hx
  obtain ⟨e, hu, hb8⟩ := okBytes_ok h1
  simp only [act, a1, aSealB]
  split
  · rename_i b ver sz' off len
    intro r H' eq
    simp only [Eff.run, Option.map_eq_some_iff, Prod.exists] at eq
    obtain ⟨blk, v', eq, e'⟩ := eq
    injection e' with e1 e2
    subst e1 e2
    split at eq
    · rename_i ver' cells hb
      split at eq
      · rename_i hc
        obtain ⟨rfl, rfl, hfit⟩ := hc
        simp only [Option.map_eq_some_iff] at eq
        obtain ⟨rows, hrows, eq⟩ := eq
        cases eq
        simp only [RV] at hv
        obtain ⟨_, _, hm⟩ := hv
        obtain ⟨a, cap, cs, hp, hlc, ha, hab, hh, hcap⟩ := (hm _ _ hb).2 rfl
        obtain ⟨cs', hh', hl, hW, hr, hone⟩ := BR.read hs hb
        obtain rfl := hh.uniq hh'
        obtain ⟨hlen, hrl, hdat, _⟩ := rowsIn_ok hrows (hr.drop off)
        obtain ⟨ty, hty⟩ := hh
        have hsh : w.shape? a.block = some (ty, cs.size) := by rw [hab]; simp [World.shape?, hty]
        have hblk : (w.freeze ⟨a.block, cs.size, none⟩ 1).heap[G.σ b]? = some (.cells cs ty (cs.size, cs.size + 1)) := by
          have hlt := (Array.getElem?_eq_some_iff.1 hty)
          simp only [World.freeze, if_neg (show ¬ (1 = 0) by omega), Array.getElem?_modify, hab, if_pos, hty, Option.map_some]
          simp
        obtain ⟨hT, hS⟩ := letgo hs hb ⟨ty, hty⟩ (w' := w.freeze ⟨a.block, cs.size, none⟩ 1) rfl rfl rfl (by simp [World.freeze]) (fun k hk => by
            simp only [World.freeze, Array.getElem?_modify, if_neg (show ¬ (1 = 0) by omega)]
            rw [if_neg (by rw [hab]; exact fun h => hk h.symm)]) (fun i => cell_of_row _ _ i cs ty _ hblk)
        refine Does.value (v := .slice (some a) len cap) (w' := w.freeze ⟨a.block, cs.size, none⟩ 1) ?_ ⟨_, ?_, hS, hT⟩
        · simp [execOp, ho, hp, convert, run_underlying hu, run_underlying hb8, markStringish, hsh]
        · simp only [RV]
          rw [← hlen]
          simp only [RD]
          refine ⟨some a, cap, rfl, by omega, fun hne => ⟨G.σ b, off, sz', ?_, ?_⟩⟩
          · rw [ha (by have : rows.length ≠ 0 := fun h => hne (List.eq_nil_of_length_eq_zero h); omega)]
          · refine RDrows_of hrl (RDs.keep hT.ext.keep _ _ hdat) (fun i v hv => ⟨?_, fun m hm => ?_, Ones.get (Ones.take (Ones.drop hone _) _) hv⟩)
            · rw [cell_of_row _ _ _ cs ty _ hblk]
              rw [List.getElem?_take] at hv
              split at hv
              · rw [List.getElem?_drop, List.getElem?_take] at hv
                split at hv
                · simpa using hv
                · cases hv
              · cases hv
            · have hm : upd G.W (G.σ b) none (G.σ b) = some m := hm
              rw [upd_same] at hm; cases hm
      · cases eq
    · cases eq
  · exact Good.none
end
end Go.Vm
