/- The machine's code stands for the model's: what its run gives is what the model's run gives. -/
import Derived.Test.YtjffpbodflkehaaGreatDoorOVmCalls
import Derived.Test.YtjffpbodflkehaaGreatDoorOVmSched
import Derived.Test.YtjffpbodflkehaaGreatDoorOVmStat
set_option linter.unusedVariables false
set_option linter.unusedSimpArgs false
namespace Go.Vm
open Go.RowKit

def chkGuard (ops : Array Oper) : Option (Nat × Bool) → Option (Nat × Bool) → Bool
  | none, none => true
  | some (t, b), some (j, b') => b == b' && ((ops[j]?).bind (·.dst)) == some t
  | _, _ => false
def chkO (P : Program) (E : Env) (N : Nat) (ops : Array Oper) (x : O) : Bool :=
  match ops[x.pos]? with
  | some o => x.dst == o.dst && okDst N x.dst && chkGuard ops x.guard o.guard && chkK P E x.op x.args o.op
  | none => false
def chkInd : Nat → List O → Bool
  | _, [] => true
  | i, a :: l => (l.all fun b => b.bef.testBit i || ind a b) && chkInd (i + 1) l
def chkInS : Nat → List O → Bool
  | _, [] => true
  | i, a :: l => (l.all fun b => b.bef.testBit i || (ind a b && statC a.op b.op)) && chkInS (i + 1) l
def chkC (P : Program) (E : Env) (N : Nat) : C → Code → Bool
  | .skip, y => (match y with | .skip => true | _ => false)
  | .ret, y => (match y with | .ret => true | _ => false)
  | .exit i, y => (match y with | .exit j => i == j | _ => false)
  | .reg na d ops, y => (match y with
    | .region _ mops draw => (match d with
      | none => !draw && ops.map O.pos == List.range mops.size
      | some d => draw && chkDraw mops ops d.gc && (match d.stat with | true => chkInS 0 ops | false => chkInd 0 ops)) && ops.all (chkO P E N mops)
    | _ => false)
  | .seq a b, y => (match y with | .seq x y => chkC P E N a x && chkC P E N b y | _ => false)
  | .cond c a b, y => (match y with | .cond c' x y => chkOpd c c' && chkC P E N a x && chkC P E N b y | _ => false)
  | .blk i c, y => (match y with | .block j x => i == j && chkC P E N c x | _ => false)
  | .loop _ _ c, y => (match y with | .loop x => chkC P E N c x | _ => false)
  | .jn _ c, y => chkC P E N c y

section
variable {P : Program} {E : Env} {N : Nat} {pc : Nat → List D → Option D} {ic : Nat → List V → List Blk → Option (V × List Blk)}

theorem want_ok {ops : Array Oper} {x : O} {o : Oper} {ts : List V} {a : Act} {w : World} {G : Gh} {H : List Blk} (hg : chkGuard ops x.guard o.guard = true) (hT : TR w G H N ts a) {b : Bool} (h : want ts x.guard = some b) :
    Region.wanted o (yielded ops a.tmps) = b := by
  unfold chkGuard at hg
  split at hg
  · rename_i h1 h2
    rw [h1] at h
    simp only [want, Option.some.injEq] at h
    simp [Region.wanted, h2, ← h]
  · rename_i t b1 j b2 h1 h2
    simp only [Bool.and_eq_true, beq_iff_eq] at hg
    obtain ⟨rfl, hd⟩ := hg
    rw [h1] at h
    simp only [want] at h
    have htmp := hT.tmp t
    simp only [Region.wanted, h2, yielded, hd, Option.bind_some]
    split at h
    · rename_i c hc
      rw [hc] at htmp
      have := RVbool htmp
      have hv : a.tmps[t]? = some (.bool c) := by
        by_cases ht : t < a.tmps.size
        · simp [Array.getD, ht] at this; simp [ht, this]
        · simp [Array.getD, ht, undef] at this
      simp only [hv]
      simpa using h
    · rename_i hc
      rw [hc] at htmp
      simp only [RV, RVs] at htmp
      obtain ⟨vs, e, rfl⟩ := htmp
      cases h
      by_cases ht : t < a.tmps.size
      · simp [Array.getD, ht] at e
        simp [ht, e]
      · simp [ht]
    · cases h
  · cases hg

/-! ### The same heap, told otherwise -/
theorem Ext.same {w : World} {G : Gh} {H H' : List Blk} (h : ∀ b, getB H' b = getB H b) : Ext w G H w G H' :=
  ⟨Keep.refl _ _, fun b hb => by rw [h]; exact hb, fun b ver' cells' _ he => ⟨ver', cells', by rw [← h]; exact he, Nat.le_refl _, fun _ => ⟨rfl, fun cs hh => ⟨cs, hh, rfl⟩⟩⟩,
   fun b sz n' _ he => ⟨n', by rw [← h]; exact he, Nat.le_refl _, fun _ => ⟨rfl, fun cs hh => ⟨cs, hh, rfl⟩⟩⟩, fun b es' _ he => ⟨es', by rw [← h]; exact he, rfl⟩⟩
theorem HS.same {w : World} {G : Gh} {H H' : List Blk} (h : ∀ b, getB H' b = getB H b) (hs : HS G H w) : HS G H' w :=
  ⟨fun b => by rw [h]; exact BR.ext (Ext.same h) (hs.blk b) (fun _ => ⟨rfl, rfl, rfl⟩), fun b c hb hc e => hs.inj b c (by rw [← h]; exact hb) (by rw [← h]; exact hc) e⟩
theorem T.same {w : World} {G : Gh} {H H' : List Blk} (h : ∀ b, getB H' b = getB H b) : T w G H w G H' :=
  ⟨Ext.same h, rfl, rfl, rfl, Nat.le_refl _, fun b hb => .inl ⟨by rw [← h]; exact hb, rfl⟩, fun _ _ _ => ⟨rfl, rfl⟩⟩
theorem getB_deads (H : List Blk) (n b : Nat) : getB (H ++ List.replicate n .dead) b = getB H b := by
  rw [getB_append]
  split
  · rfl
  · rw [getB_dead, getB_out _ _ (by omega)]

/-! ### One operation -/
theorem exec_ok (hE : Spec P E) (hpc : PcOK P E.fid pc) (hic : IcOK P E.fid ic) (hf : ∀ f, f < 10000 → E.fid f = f) {hid : List Nat} {k : K} {xs : List Opd} {o : Oper} {S : St} {r : V} {H' : List Blk}
    (h : exec pc ic hid k S.base (evs S.tmps xs) S.heap = some (r, H')) (hk : chkK P E k xs o.op = true) {w : World} {G : Gh} {a : Act} (hT : TR w G S.heap N S.tmps a) (hs : HS G S.heap w) :
    Does P (execOp a.eval o) w (Post w G S.heap H' r) := by
  have hx : ∀ {ys}, chkOpds xs ys = true → RVs w G S.heap (evs S.tmps xs) (ys.map a.eval) := fun h => chkOpds_ok hT h
  by_cases hc : isCall k = true
  · cases k <;> first
      | (simp [isCall] at hc; done)
      | skip
    · rename_i j
      simp only [chkK] at hk
      split at hk
      · rename_i f as hf
        simp only [Bool.and_eq_true, beq_iff_eq] at hk
        obtain ⟨rfl, hk⟩ := hk
        obtain ⟨ts, hf⟩ := callF_ok hf
        simp only [exec] at h
        have := callIn_ok hic h hs (hx hk)
        unfold Does
        rw [run_callF hf rfl]
        exact this
      · cases hk
    · simp only [chkK] at hk
      split at hk
      · rename_i y as hcv
        obtain ⟨ts, hcv⟩ := callV_ok hcv
        have hx := hx hk
        rw [List.map_cons] at hx
        obtain ⟨vf, args, e, h1, h2⟩ := RVs_two hx
        rw [e] at h
        simp only [exec, callFn] at h
        split at h
        · rename_i f cap
          split at h
          · rename_i hb
            simp only [RV] at h1
            obtain ⟨cs, hy, hcap⟩ := h1
            have := callIn_ok hic h hs (RVs.append h2 hcap)
            have hlt : f ≤ 9999 := by simpa [Nat.blt] using hb
            rw [hf f (Nat.lt_succ_of_le hlt)] at this
            unfold Does
            rw [run_callV hcv hy]
            exact this
          · cases h
        · cases h
      · cases hk
  · have hc' : isCall k = false := by simpa using hc
    rw [deed_plain pc ic hc'] at h
    exact act_good hE hpc hk hc' hT hs r H' h

/-! ### A region -/
theorem runA_ok (hE : Spec P E) (hpc : PcOK P E.fid pc) (hic : IcOK P E.fid ic) (hf : ∀ f, f < 10000 → E.fid f = f) {ops : Array Oper} {Q : Exit → Act → World → Prop} {w0 : World} {G0 : Gh} {H0 : List Blk} {S' : St} :
    ∀ (L : List A) (S : St), runA pc ic L S = some S' → (∀ x, x ∈ L → chkO P E N ops x.o = true) → ∀ {w : World} {G : Gh} {a : Act}, TR w G S.heap N S.tmps a → HS G S.heap w → T w0 G0 H0 w G S.heap →
      (∀ a' w' G', TR w' G' S'.heap N S'.tmps a' → HS G' S'.heap w' → T w0 G0 H0 w' G' S'.heap → Q .normal a' w') → wpOps P ops Q (L.map fun x => x.o.pos) a w
  | [], S, h, _, w, G, a, hT, hs, h0, hq => by
    simp only [runA, Option.some.injEq] at h
    subst h
    exact hq a w G hT hs h0
  | x :: L, S, h, hL, w, G, a, hT, hs, h0, hq => by
    simp only [runA, Option.bind_eq_some_iff] at h
    obtain ⟨S1, h1, h2⟩ := h
    have hx := hL x (by simp)
    unfold chkO at hx
    split at hx
    · rename_i o ho
      simp only [Bool.and_eq_true, beq_iff_eq] at hx
      obtain ⟨⟨⟨hd, hdN⟩, hg⟩, hk⟩ := hx
      simp only [List.map_cons, wpOps, ho]
      simp only [oper, Option.bind_eq_some_iff] at h1
      obtain ⟨b, hb, h1⟩ := h1
      rw [want_ok hg hT hb]
      have ih := fun {w : World} {G : Gh} {a : Act} => runA_ok hE hpc hic hf (ops := ops) (Q := Q) (w0 := w0) (G0 := G0) (H0 := H0) L S1 h2 (fun y hy => hL y (by simp [hy])) (w := w) (G := G) (a := a)
      cases b
      · simp only [Bool.false_eq_true, if_false, Option.some.injEq] at h1
        subst h1
        simp only [Bool.false_eq_true, if_false]
        rw [hd] at hdN
        refine ih (G := G) ?_ hs h0 hq
        rw [hd]
        exact hT.put hdN (by simp only [undefV, RV, RVs]; exact ⟨[], rfl, rfl⟩)
      · simp only [if_true, Option.map_eq_some_iff] at h1
        obtain ⟨⟨r, H'⟩, h1, rfl⟩ := h1
        simp only [if_true]
        refine .inl (Does.wp (exec_ok hE hpc hic hf h1 hk hT hs) fun v w' hp => ?_)
        obtain ⟨G', g1, g2, g3⟩ := hp
        rw [hd] at hdN
        refine ih (G := G') ?_ g2 (h0.trans g3) hq
        rw [hd]
        exact (hT.ext g3.ext).put hdN g1
    · cases hx

theorem perm_lift {α : Type} {f : α → Nat} : ∀ {l : List Nat} {L : List α}, l.Perm (L.map f) → ∃ L' : List α, L'.Perm L ∧ L'.map f = l
  | [], L, h => by
    have : L = [] := by simpa using h.symm.eq_nil
    subst this; exact ⟨[], List.Perm.refl _, rfl⟩
  | p :: l, L, h => by
    obtain ⟨x, hx, e⟩ := List.mem_map.1 (h.subset (by simp : p ∈ p :: l))
    obtain ⟨K, B, rfl⟩ := List.append_of_mem hx
    subst e
    have : l.Perm ((K ++ B).map f) := by
      have h' := h
      simp only [List.map_append, List.map_cons] at h' ⊢
      exact (h'.trans List.perm_middle).cons_inv
    obtain ⟨L', h1, h2⟩ := perm_lift this
    exact ⟨x :: L', (h1.cons x).trans List.perm_middle.symm, by simp [h2]⟩

theorem chkInd_ok : ∀ {ops : List O} {i : Nat}, chkInd i ops = true → ∀ {L : List A}, L.map A.o = ops → L.map A.i = List.range' i ops.length → L.Pairwise (fun a b => b.o.bef.testBit a.i = true ∨ ind a.o b.o = true)
  | [], _, _, L, h, _ => by
    have : L = [] := by simpa using h
    subst this; exact List.Pairwise.nil
  | o :: os, i, hc, L, h, hi => by
    cases L with
    | nil => simp at h
    | cons x L =>
      simp only [List.map_cons, List.cons.injEq] at h
      obtain ⟨rfl, h⟩ := h
      simp only [List.map_cons, List.length_cons, List.range'_succ, List.cons.injEq] at hi
      obtain ⟨hxi, hi⟩ := hi
      simp only [chkInd, Bool.and_eq_true, List.all_eq_true, Bool.or_eq_true] at hc
      refine List.pairwise_cons.2 ⟨fun b hb => ?_, chkInd_ok hc.2 h hi⟩
      rw [hxi]
      exact hc.1 b.o (by rw [← h]; exact List.mem_map.2 ⟨b, hb, rfl⟩)

theorem chkInS_ok : ∀ {ops : List O} {i : Nat}, chkInS i ops = true → ∀ {L : List A}, L.map A.o = ops → L.map A.i = List.range' i ops.length → L.Pairwise (fun a b => b.o.bef.testBit a.i = true ∨ (ind a.o b.o = true ∧ statC a.o.op b.o.op = true))
  | [], _, _, L, h, _ => by
    have : L = [] := by simpa using h
    subst this; exact List.Pairwise.nil
  | o :: os, i, hc, L, h, hi => by
    cases L with
    | nil => simp at h
    | cons x L =>
      simp only [List.map_cons, List.cons.injEq] at h
      obtain ⟨rfl, h⟩ := h
      simp only [List.map_cons, List.length_cons, List.range'_succ, List.cons.injEq] at hi
      obtain ⟨hxi, hi⟩ := hi
      simp only [chkInS, Bool.and_eq_true, List.all_eq_true, Bool.or_eq_true] at hc
      refine List.pairwise_cons.2 ⟨fun b hb => ?_, chkInS_ok hc.2 h hi⟩
      rw [hxi]
      exact hc.1 b.o (by rw [← h]; exact List.mem_map.2 ⟨b, hb, rfl⟩)

theorem range_get : ∀ {L : List A} {i : Nat}, L.map A.i = List.range' i L.length → ∀ x, x ∈ L → i ≤ x.i ∧ (L.map A.o)[x.i - i]? = some x.o
  | [], _, _, x, hx => by cases hx
  | y :: L, i, h, x, hx => by
    simp only [List.map_cons, List.length_cons, List.range'_succ, List.cons.injEq] at h
    obtain ⟨h1, h2⟩ := h
    rcases List.mem_cons.1 hx with rfl | hx
    · exact ⟨by omega, by simp [h1]⟩
    · obtain ⟨g1, g2⟩ := range_get h2 x hx
      refine ⟨by omega, ?_⟩
      rw [show x.i - i = (x.i - (i + 1)) + 1 by omega]
      simpa using g2

theorem pairwise_mem {α : Type} {R S : α → α → Prop} : ∀ {l : List α}, (∀ a b, a ∈ l → b ∈ l → R a b → S a b) → l.Pairwise R → l.Pairwise S
  | [], _, _ => List.Pairwise.nil
  | x :: l, h, hp => by
    rw [List.pairwise_cons] at hp ⊢
    exact ⟨fun b hb => h x b (by simp) (by simp [hb]) (hp.1 b hb), pairwise_mem (fun a b ha hb => h a b (by simp [ha]) (by simp [hb])) hp.2⟩

/-! ### Code -/
def exOf : Ex → Exit
  | .nrm => .normal
  | .exit i => .exit i
  | .ret => .ret

theorem getT_mask (m : Nat) : ∀ (ts : List V) (i t : Nat), getT (maskT m i ts) t = .junk ∨ getT (maskT m i ts) t = getT ts t
  | [], _, _ => .inr rfl
  | v :: l, i, 0 => by
    simp only [maskT, getT_nil, getT_zero, getT_succ]
    cases m.testBit i
    · exact .inl rfl
    · exact .inr rfl
  | v :: l, i, t + 1 => by
    simp only [maskT, getT_nil, getT_zero, getT_succ]
    exact getT_mask m l (i + 1) t

theorem TR.mask {w : World} {G : Gh} {H : List Blk} {ts : List V} {a : Act} (h : TR w G H N ts a) (m : Nat) : TR w G H N (maskT m 0 ts) a :=
  ⟨h.size, h.defers, fun t => by
    rcases getT_mask m ts 0 t with e | e
    · rw [e]; simp only [RV]
    · rw [e]; exact h.tmp t⟩

theorem getT_list (ts : List V) : ∀ (n i t : Nat), getT (listT ts n i) t = if t < n then getT ts (i + t) else .junk
  | 0, _, _ => by simp [listT, getT_nil, getT_zero, getT_succ]
  | n + 1, i, 0 => by simp [listT, getT_nil, getT_zero, getT_succ]
  | n + 1, i, t + 1 => by
    simp only [listT, getT_nil, getT_zero, getT_succ]
    rw [getT_list ts n (i + 1) t, show i + 1 + t = i + (t + 1) by omega]
    simp
theorem TR.list {w : World} {G : Gh} {H : List Blk} {ts : List V} {a : Act} (h : TR w G H N ts a) (n : Nat) : TR w G H N (listT ts n 0) a :=
  ⟨h.size, h.defers, fun t => by
    rw [getT_list]
    split
    · rw [Nat.zero_add]; exact h.tmp t
    · simp only [RV]⟩

theorem newB_get (na : Nat) (H : List Blk) (b : Nat) : getB (newB na H).2 b = getB H b := by
  unfold newB
  split
  · rfl
  · exact getB_deads _ _ _

def StepOK (P : Program) (N : Nat) (S : St) (e : Ex) (S' : St) (code : Code) : Prop :=
  ∀ {w : World} {G : Gh} {a : Act} {Q : Exit → Act → World → Prop}, TR w G S.heap N S.tmps a → HS G S.heap w →
    (∀ a' w' G', TR w' G' S'.heap N S'.tmps a' → HS G' S'.heap w' → T w G S.heap w' G' S'.heap → Q (exOf e) a' w') → code.wp P Q a w

theorem step_ok (hE : Spec P E) (hpc : PcOK P E.fid pc) (hic : IcOK P E.fid ic) (hf : ∀ f, f < 10000 → E.fid f = f) (n : Nat) : ∀ (c : C) (code : Code), chkC P E N c code = true → ∀ (S : St) (e : Ex) (S' : St), step pc ic n c S = some (e, S') → StepOK P N S e S' code := by
  intro c
  induction c with
  | skip =>
    intro code hc S e S' h w G a Q hT hs hq
    simp only [chkC] at hc
    split at hc
    · simp only [step, Option.some.injEq, Prod.mk.injEq] at h
      obtain ⟨rfl, rfl⟩ := h
      exact wp_skip (hq a w G hT hs (T.refl _ _ _))
    · cases hc
  | ret =>
    intro code hc S e S' h w G a Q hT hs hq
    simp only [chkC] at hc
    split at hc
    · simp only [step, Option.some.injEq, Prod.mk.injEq] at h
      obtain ⟨rfl, rfl⟩ := h
      exact wp_ret (hq a w G hT hs (T.refl _ _ _))
    · cases hc
  | exit i =>
    intro code hc S e S' h w G a Q hT hs hq
    simp only [chkC] at hc
    split at hc
    · simp only [beq_iff_eq] at hc
      subst hc
      simp only [step, Option.some.injEq, Prod.mk.injEq] at h
      obtain ⟨rfl, rfl⟩ := h
      exact wp_exit (hq a w G hT hs (T.refl _ _ _))
    · cases hc
  | reg na d ops =>
    intro code hc S e S' h w G a Q hT hs hq
    simp only [chkC] at hc
    split at hc
    · rename_i id mops draw
      simp only [Bool.and_eq_true, List.all_eq_true] at hc
      obtain ⟨hc, hO⟩ := hc
      simp only [step] at h
      have e2 := newB_get na S.heap
      generalize hgen : (⟨(newB na S.heap).1, S.tmps, (newB na S.heap).2⟩ : St) = S0 at h
      have e1 : S0.tmps = S.tmps := by rw [← hgen]
      have e3 : ∀ b, getB S0.heap b = getB S.heap b := by rw [← hgen]; exact e2
      have hT0 : TR w G S0.heap N S0.tmps a := by rw [e1]; exact hT.ext (Ext.same e3)
      have hs0 : HS G S0.heap w := hs.same e3
      have h00 : T w G S.heap w G S0.heap := T.same e3
      have draws : ∀ (L : List A), L.map A.o = ops → L.map A.i = List.range' 0 ops.length → ∀ g, chkDraw mops ops g = true → ∀ S1 : St, (∀ L' : List A, L'.Perm L → L'.Pairwise (fun z y => z.o.bef.testBit y.i = false) → runA pc ic L' S0 = some S1) →
          (∀ a' w' G', TR w' G' S1.heap N S1.tmps a' → HS G' S1.heap w' → T w G S.heap w' G' S1.heap → Q .normal a' w') → (Code.region id mops true).wp P Q a w := by
        intro L l1 l2 g hdr S1 hany hq
        refine wp_region_draw fun t => ?_
        obtain ⟨p1, p2, p3⟩ := draw_ok hdr (P.follows .mixedOrders) t
        have p1' : (Region.schedule (P.follows .mixedOrders) mops t).Perm (L.map fun x => x.o.pos) := by
          rw [show (L.map fun x => x.o.pos) = (L.map A.o).map O.pos by rw [List.map_map]; rfl, l1]; exact p1
        obtain ⟨L', q1, q2⟩ := perm_lift p1'
        have hlen : L.length = ops.length := by rw [← l1, List.length_map]
        have hget : ∀ x, x ∈ L → ops[x.i]? = some x.o := fun x hx => by
          have := (range_get (i := 0) (by rw [l2, hlen]) x hx).2
          rwa [l1, Nat.sub_zero] at this
        have hpw : L'.Pairwise (fun z y => z.o.bef.testBit y.i = false) := by
          rw [← q2, List.pairwise_map] at p3
          refine pairwise_mem (fun z y hz hy hR => ?_) p3
          exact hR z.i y.i z.o y.o (hget z (q1.subset hz)) rfl (hget y (q1.subset hy)) rfl
        have hrun := hany L' q1 hpw
        rw [← q2]
        exact runA_ok hE hpc hic hf (ops := mops) (Q := Q) (w0 := w) (G0 := G) (H0 := S.heap) L' S0 hrun (fun x hx => hO x.o (List.mem_of_getElem? (hget x (q1.subset hx))))
          (w := w.drew) (hT0.ext (Ext.drew w G _)) hs0.drew (h00.trans (T.drew w G _)) hq
      cases d with
      | none =>
        simp only [Bool.and_eq_true, Bool.not_eq_true', beq_iff_eq] at hc
        obtain ⟨rfl, hpos⟩ := hc
        simp only [Option.map_eq_some_iff, Prod.mk.injEq] at h
        obtain ⟨S1, h, rfl, rfl⟩ := h
        rw [opers_placed pc ic ops 0] at h
        refine wp_region ?_
        have hmem : ∀ x, x ∈ placed 0 ops → chkO P E N mops x.o = true := fun x hx => hO x.o (by rw [← placed_o ops 0]; exact List.mem_map.2 ⟨x, hx, rfl⟩)
        have := runA_ok hE hpc hic hf (ops := mops) (Q := Q) (w0 := w) (G0 := G) (H0 := S.heap) _ S0 h hmem hT0 hs0 h00 hq
        rw [show (placed 0 ops).map (fun x => x.o.pos) = ((placed 0 ops).map A.o).map O.pos by rw [List.map_map]; rfl, placed_o] at this
        rw [← hpos]
        exact this
      | some d =>
        simp only [Bool.and_eq_true] at hc
        obtain ⟨⟨rfl, hdr⟩, hin⟩ := hc
        simp only at h
        split at h
        · rename_i hst
          simp only [hst] at hin
          simp only [Option.map_eq_some_iff, Prod.mk.injEq] at h
          obtain ⟨S1, h, rfl, rfl⟩ := h
          rw [opers_placed pc ic ops 0] at h
          exact draws _ (placed_o ops 0) (placed_i ops 0) d.gc hdr S1 (fun L' hp hpw => runA_any pc ic hp hpw (chkInS_ok hin (placed_o ops 0) (placed_i ops 0)) h) hq
        · rename_i hst
          simp only [hst] at hin
          simp only [Option.map_eq_some_iff, Prod.mk.injEq] at h
          obtain ⟨S1, h, rfl, rfl⟩ := h
          obtain ⟨L, l1, l2, l3⟩ := drawn_A pc ic h
          exact draws L l1 l2 d.gc hdr S1 (fun L' hp hpw => stepsA_any pc ic hp hpw (chkInd_ok hin l1 l2) l3) (fun a' w' G' hT' hs' h0' => hq a' w' G' (hT'.list _) hs' h0')
    · cases hc
  | seq c1 c2 ih1 ih2 =>
    intro code hc S e S' h w G a Q hT hs hq
    simp only [chkC] at hc
    split at hc
    · simp only [Bool.and_eq_true] at hc
      simp only [step, Option.bind_eq_some_iff] at h
      obtain ⟨⟨e1, S1⟩, h1, h2⟩ := h
      refine wp_seq (ih1 _ hc.1 S e1 S1 h1 hT hs fun a' w' G' hT' hs' h0' => ?_)
      cases e1 with
      | nrm =>
        simp only at h2
        exact ih2 _ hc.2 S1 e S' h2 hT' hs' fun a'' w'' G'' hT'' hs'' h0'' => hq a'' w'' G'' hT'' hs'' (h0'.trans h0'')
      | exit i =>
        simp only [Option.some.injEq, Prod.mk.injEq] at h2
        obtain ⟨rfl, rfl⟩ := h2
        exact hq a' w' G' hT' hs' h0'
      | ret =>
        simp only [Option.some.injEq, Prod.mk.injEq] at h2
        obtain ⟨rfl, rfl⟩ := h2
        exact hq a' w' G' hT' hs' h0'
    · cases hc
  | cond c c1 c2 ih1 ih2 =>
    intro code hc S e S' h w G a Q hT hs hq
    simp only [chkC] at hc
    split at hc
    · simp only [Bool.and_eq_true] at hc
      obtain ⟨⟨hc0, hc1⟩, hc2⟩ := hc
      simp only [step] at h
      split at h
      · rename_i t ht
        have hv := chkOpd_ok hT hc0
        rw [ht] at hv
        refine wp_cond (RVbool hv) ?_
        cases t
        · simp only [Bool.false_eq_true, if_false] at h ⊢; exact ih2 _ hc2 S e S' h hT hs hq
        · simp only [if_true] at h ⊢; exact ih1 _ hc1 S e S' h hT hs hq
      · cases h
    · cases hc
  | blk i c ih =>
    intro code hc S e S' h w G a Q hT hs hq
    simp only [chkC] at hc
    split at hc
    · simp only [Bool.and_eq_true, beq_iff_eq] at hc
      obtain ⟨rfl, hc⟩ := hc
      simp only [step, Option.map_eq_some_iff] at h
      obtain ⟨⟨e1, S1⟩, h1, h2⟩ := h
      refine wp_block (ih _ hc S e1 S1 h1 hT hs fun a' w' G' hT' hs' h0' => ?_)
      cases e1 with
      | nrm =>
        simp only [Prod.mk.injEq] at h2
        obtain ⟨rfl, rfl⟩ := h2
        exact hq a' w' G' hT' hs' h0'
      | exit j =>
        simp only [exOf, Exit.inBlock]
        simp only at h2
        split at h2
        · rename_i hj
          simp only [Prod.mk.injEq] at h2
          obtain ⟨rfl, rfl⟩ := h2
          rw [if_pos hj]
          exact hq a' w' G' hT' hs' h0'
        · rename_i hj
          simp only [Prod.mk.injEq] at h2
          obtain ⟨rfl, rfl⟩ := h2
          rw [if_neg hj]
          exact hq a' w' G' hT' hs' h0'
      | ret =>
        simp only [Prod.mk.injEq] at h2
        obtain ⟨rfl, rfl⟩ := h2
        exact hq a' w' G' hT' hs' h0'
    · cases hc
  | loop ks trim c ih =>
    intro code hc S e S' h w G a Q hT hs hq
    simp only [chkC] at hc
    split at hc
    · rename_i x
      simp only [step] at h
      intro b k cs
      have key : ∀ (m : Nat) (S1 : St), loops (step pc ic n c) ks trim S.heap.length m S1 = some (e, S') → ∀ (w1 : World) (G1 : Gh) (a1 : Act), TR w1 G1 S1.heap N S1.tmps a1 → HS G1 S1.heap w1 → T w G S.heap w1 G1 S1.heap →
          ∃ e' a' w', Q e' a' w' ∧ Arrives P (lone (b.at a1 (.code x :: .inLoop x :: k)) cs w1) b k cs e' a' w' := by
        intro m
        induction m with
        | zero => intro S1 h; simp [loops] at h
        | succ m ihm =>
          intro S1 h w1 G1 a1 hT1 hs1 h01
          simp only [loops, Option.bind_eq_some_iff] at h
          obtain ⟨H2, ht, ⟨e2, S2⟩, h2, h3⟩ := h
          obtain ⟨g1, g2, g4⟩ := trimmed_ok ht hs1 (hT1.mask ks) h01 (Nat.le_refl _)
          have hw := ih x hc ⟨0, _, H2⟩ e2 S2 h2 (w := w1) (G := G1) (a := a1) (Q := fun ex a' w' => ex = exOf e2 ∧ ∃ G', TR w' G' S2.heap N S2.tmps a' ∧ HS G' S2.heap w' ∧ T w G S.heap w' G' S2.heap) g2 g1
            (fun a' w' G' hT' hs' h0' => ⟨rfl, G', hT', hs', g4.trans h0'⟩)
          obtain ⟨ex, a', w', ⟨rfl, G', hT', hs', h0'⟩, harr⟩ := hw b (.inLoop x :: k) cs
          cases e2 with
          | nrm =>
            simp only at h3
            obtain ⟨e3, a3, w3, hq3, harr3⟩ := ihm S2 h3 w' G' a' hT' hs' h0'
            exact ⟨e3, a3, w3, hq3, .of_steps (Steps.trans harr (.one step_inLoop)) harr3⟩
          | exit i =>
            simp only [Option.some.injEq, Prod.mk.injEq] at h3
            obtain ⟨rfl, rfl⟩ := h3
            exact ⟨_, a', w', hq a' w' G' hT' hs' h0', .pass (x := .inLoop x) rfl (fun _ _ => .inl (by simp [exOf])) harr⟩
          | ret =>
            simp only [Option.some.injEq, Prod.mk.injEq] at h3
            obtain ⟨rfl, rfl⟩ := h3
            exact ⟨_, a', w', hq a' w' G' hT' hs' h0', .pass (x := .inLoop x) rfl (fun _ _ => .inl (by simp [exOf])) harr⟩
      obtain ⟨e', a', w', hq', harr⟩ := key n S h w G a hT hs (T.refl _ _ _)
      exact ⟨e', a', w', hq', .of_steps (.one step_loop) harr⟩
    · cases hc
  | jn keep c ih =>
    intro code hc S e S' h w G a Q hT hs hq
    simp only [chkC] at hc
    simp only [step] at h
    exact ih code hc ⟨0, maskT keep 0 S.tmps, S.heap⟩ e S' h (hT.mask keep) hs hq
end
end Go.Vm
