/- Regions that draw, told for the kernel: the same as 'drawn'. -/
import Derived.Test.YtjffpbodflkehaaGreatDoorOVmStep
set_option linter.unusedVariables false
set_option linter.unusedSimpArgs false
namespace Go.Vm

noncomputable def setTF (l : List V) (n : Nat) (x : V) : List V := List.rec (motive := fun _ => Nat → List V) (fun n => setT [] n x) (fun v t ih n => Nat.rec (x :: t) (fun m _ => v :: ih m) n) l n
theorem setTF_eq : ∀ (l : List V) (n : Nat) (x : V), setTF l n x = setT l n x
  | [], _, _ => rfl
  | _ :: _, 0, _ => rfl
  | v :: l, n + 1, x => congrArg (v :: ·) (setTF_eq l n x)
noncomputable def putF (ts : List V) (dst : Option Nat) (v : V) : List V := Option.rec ts (fun t => setTF ts t v) dst
theorem putF_eq (ts : List V) (dst : Option Nat) (v : V) : putF ts dst v = put ts dst v := by
  cases dst with
  | none => rfl
  | some t => exact setTF_eq _ _ _
noncomputable def opdF (ts : List V) (x : Opd) : V := Opd.rec (fun n => getT ts n) (fun v => v) x
noncomputable def evsF (ts : List V) (l : List Opd) : List V := List.rec [] (fun x _ ih => opdF ts x :: ih) l
theorem evsF_eq (ts : List V) : ∀ l : List Opd, evsF ts l = evs ts l
  | [] => rfl
  | x :: l => by
    show opdF ts x :: evsF ts l = _
    rw [evsF_eq ts l]
    cases x <;> rfl
/-- A bit of a mask. -/
noncomputable def bitF (m j : Nat) : Bool := Nat.beq (Nat.land 1 (Nat.shiftRight m j)) 1
theorem bitF_eq (m j : Nat) : bitF m j = m.testBit j := by
  unfold bitF
  have h : Nat.land 1 (Nat.shiftRight m j) = 1 &&& (m >>> j) := rfl
  rw [h, beq_eq, Nat.testBit]
  have : 1 &&& (m >>> j) = (m >>> j) % 2 := by rw [Nat.and_comm]; exact Nat.and_one_is_mod _
  rw [this]
  rcases Nat.mod_two_eq_zero_or_one (m >>> j) with h | h <;> simp [h]
noncomputable def meetF (b : Nat) (w : Bool) (u : Tch) : Bool := Tch.rec (fun c w' => Bool.rec false (Bool.rec w' true w) (Nat.beq b c)) (fun l => notB (l.contains b)) u
theorem meetF_eq (b : Nat) (w : Bool) (u : Tch) : meetF b w u = meets (.blk b w) u := by
  cases u with
  | blk c w' =>
    show (Bool.rec false (Bool.rec w' true w) (Nat.beq b c) : Bool) = (b == c && (w || w'))
    rw [beq_eq]
    by_cases h : b = c <;> simp [h] <;> cases w <;> cases w' <;> rfl
  | all l => exact notB_eq _
/-- Is all that was touched, and not ordered ahead, apart from a block? -/
noncomputable def apF (b : Nat) (w : Bool) (bef : Nat) (seen : List (Nat × Tch)) : Bool :=
  List.rec true (fun e _ ih => Bool.rec (Bool.rec ih false (meetF b w e.2)) ih (bitF bef e.1)) seen
theorem apF_eq (b : Nat) (w : Bool) (o : O) : ∀ seen : List (Nat × Tch), apF b w o.bef seen = (apart seen o).all fun u => !meets (.blk b w) u
  | [] => rfl
  | e :: seen => by
    show (Bool.rec (Bool.rec (apF b w o.bef seen) false (meetF b w e.2)) (apF b w o.bef seen) (bitF o.bef e.1) : Bool) = _
    rw [apF_eq b w o seen, bitF_eq, meetF_eq]
    obtain ⟨j, u⟩ := e
    simp only [apart, List.filter_cons]
    cases hb : o.bef.testBit j with
    | true => simp
    | false =>
      simp only [Bool.not_false, if_true, List.map_cons, List.all_cons]
      cases meets (.blk b w) u <;> rfl
noncomputable def chkTF (n bef : Nat) (seen : List (Nat × Tch)) (l : List (Nat × Bool)) : Bool :=
  List.rec true (fun e _ ih => Bool.rec false (Bool.rec false ih (apF e.1 e.2 bef seen)) (Nat.ble (Nat.add e.1 1) n)) l
theorem chkTF_eq (n : Nat) (o : O) (seen : List (Nat × Tch)) : ∀ l : List (Nat × Bool), chkTF n o.bef seen l = (l.map fun (b, w) => Tch.blk b w).all fun x => inH n x && (apart seen o).all fun u => !meets x u
  | [] => rfl
  | e :: l => by
    show (Bool.rec false (Bool.rec false (chkTF n o.bef seen l) (apF e.1 e.2 o.bef seen)) (Nat.ble (Nat.add e.1 1) n) : Bool) = _
    rw [chkTF_eq n o seen l, apF_eq, ble_eq]
    simp only [List.map_cons, List.all_cons, inH]
    have hd : decide (Nat.add e.1 1 ≤ n) = decide (e.1 < n) := rfl
    rw [hd]
    cases decide (e.1 < n) with
    | false => simp
    | true => cases (apart seen o).all fun u => !meets (.blk e.1 e.2) u <;> simp
noncomputable def mapT (i : Nat) (seen : List (Nat × Tch)) (l : List (Nat × Bool)) : List (Nat × Tch) := List.rec seen (fun e _ ih => (i, .blk e.1 e.2) :: ih) l
theorem mapT_eq (i : Nat) (seen : List (Nat × Tch)) : ∀ l : List (Nat × Bool), mapT i seen l = ((l.map fun (b, w) => Tch.blk b w).map fun x => (i, x)) ++ seen
  | [] => rfl
  | e :: l => congrArg ((i, Tch.blk e.1 e.2) :: ·) (mapT_eq i seen l)

section
variable {R : Type}
/-- A run, with what it touches. -/
noncomputable def Eff.goT (H : List Blk) (e : Eff) (k : V → List Blk → List (Nat × Bool) → Option R) : Option R :=
  Eff.rec (motive := fun _ => (V → List Blk → List (Nat × Bool) → Option R) → Option R) (fun v k => Option.rec none (fun v => k v H []) v) (fun b _ ih k => ih (getBF H b) fun v H' l => k v H' ((b, false) :: l))
    (fun b f k => Option.rec none (fun r => k r.2 (setBF H b r.1) [(b, true)]) (f (getBF H b))) e k
theorem Eff.goT_eq (H : List Blk) : ∀ (e : Eff) (k : V → List Blk → List (Nat × Bool) → Option R), e.goT H k = (e.run H).bind fun r => k r.1 r.2 (e.touch H)
  | .ret v, k => by cases v <;> rfl
  | .get b f, k => by
    show (f (getBF H b)).goT H (fun v H' l => k v H' ((b, false) :: l)) = _
    rw [Eff.goT_eq H (f (getBF H b)), getBF_eq]; rfl
  | .put b f, k => by
    show (Option.rec none (fun r => k r.2 (setBF H b r.1) [(b, true)]) (f (getBF H b)) : Option R) = _
    rw [getBF_eq]
    simp only [Eff.run, Eff.touch, setBF_eq]
    cases f (getB H b) <;> rfl
noncomputable def lenB' (H : List Blk) : Nat := List.rec 0 (fun _ _ ih => Nat.add ih 1) H
theorem lenB'_eq : ∀ H : List Blk, lenB' H = H.length
  | [] => rfl
  | b :: H => by
    show Nat.add (lenB' H) 1 = _
    rw [lenB'_eq H]; rfl
/-- Is it wanted? -/
noncomputable def wantF (ts : List V) (g : Option (Nat × Bool)) (y n : Option R) : Option R :=
  Option.rec y (fun g => V.rec (motive_1 := fun _ => Option R) (motive_2 := fun _ => Unit)
    (fun d => D.rec (motive_1 := fun _ => Option R) (motive_2 := fun _ => Unit) (motive_3 := fun _ => Unit) (fun _ _ => none) (fun c => Bool.rec (Bool.rec y n c) (Bool.rec n y c) g.2) (fun _ => none) (fun _ _ => none) (fun _ _ => none) (fun _ _ => none) none (fun _ _ _ => none) (fun _ _ => none) none () (fun _ _ _ _ => ()) () (fun _ _ _ _ => ()) d)
    (fun _ _ => none) (fun _ _ _ _ _ => none) (fun _ _ _ => none) (fun _ => none) (fun _ _ _ => none) (fun _ _ => none) (fun l _ => List.rec n (fun _ _ _ => none) l) none none (fun _ => none) (fun _ => none) none none () (fun _ _ _ _ => ()) (getT ts g.1)) g
theorem wantF_eq (ts : List V) (g : Option (Nat × Bool)) (y n : Option R) : wantF ts g y n = match want ts g with | some true => y | some false => n | none => none := by
  cases g with
  | none => rfl
  | some g =>
    obtain ⟨t, b⟩ := g
    simp only [wantF, want]
    generalize getT ts t = v
    cases v <;> try rfl
    case d x =>
      cases x <;> try rfl
      case bool c => cases b <;> cases c <;> rfl
    case tup l => cases l <;> rfl
noncomputable def isCallF (k : K) (y n : Option R) : Option R := Bool.rec n y (isCall k)

variable (pc : Nat → List D → Option D) (ic : Nat → List V → List Blk → Option (V × List Blk))
/-- One operation of a region that draws: an operation in place. -/
noncomputable def oneF (o : O) (i base : Nat) (seen : List (Nat × Tch)) (ts : List V) (H : List Blk) (k : List (Nat × Tch) → List V → List Blk → Option R) : Option R :=
  (act pc base o.op (evsF ts o.args)).goT H fun v H' l => List.rec (k seen (putF ts o.dst v) H') (fun _ _ _ => Bool.rec none (k (mapT i seen l) (putF ts o.dst v) H') (chkTF (lenB' H) o.bef seen l)) l
noncomputable def hasF (l : List Nat) (b : Nat) : Bool := List.rec false (fun x _ ih => Bool.rec ih true (Nat.beq b x)) l
theorem hasF_eq (b : Nat) : ∀ l : List Nat, hasF l b = l.contains b
  | [] => rfl
  | x :: l => by
    show (Bool.rec (hasF l b) true (Nat.beq b x) : Bool) = _
    rw [hasF_eq b l, beq_eq, List.contains_cons]
    by_cases h : b = x <;> simp [h]
noncomputable def blksF (bef : Nat) (seen : List (Nat × Tch)) : List Nat := List.rec [] (fun e _ ih => Bool.rec (Tch.rec (fun b _ => b :: ih) (fun _ => ih) e.2) ih (bitF bef e.1)) seen
theorem blksF_eq (o : O) : ∀ seen : List (Nat × Tch), blksF o.bef seen = blks (apart seen o)
  | [] => rfl
  | (j, u) :: seen => by
    show (Bool.rec (Tch.rec (fun b _ => b :: blksF o.bef seen) (fun _ => blksF o.bef seen) u) (blksF o.bef seen) (bitF o.bef j) : List Nat) = _
    rw [blksF_eq o seen, bitF_eq]
    simp only [apart, List.filter_cons]
    cases o.bef.testBit j with
    | true => simp
    | false =>
      simp only [Bool.not_false, if_true, List.map_cons]
      cases u <;> rfl
noncomputable def belF (n : Nat) (l : List Nat) : Bool := List.rec true (fun x _ ih => Bool.rec false ih (Nat.ble (Nat.add x 1) n)) l
theorem belF_eq (n : Nat) : ∀ l : List Nat, belF n l = l.all fun b => decide (b < n)
  | [] => rfl
  | x :: l => by
    show (Bool.rec false (belF n l) (Nat.ble (Nat.add x 1) n) : Bool) = _
    rw [belF_eq n l, ble_eq, List.all_cons]
    have hd : decide (Nat.add x 1 ≤ n) = decide (x < n) := rfl
    rw [hd]
    cases decide (x < n) <;> rfl
noncomputable def freeF (hid : List Nat) (bef : Nat) (seen : List (Nat × Tch)) : Bool := List.rec true (fun e _ ih => Bool.rec (Tch.rec (fun b _ => Bool.rec false ih (hasF hid b)) (fun _ => false) e.2) ih (bitF bef e.1)) seen
theorem freeF_eq (hid : List Nat) (o : O) : ∀ seen : List (Nat × Tch), freeF hid o.bef seen = (apart seen o).all fun u => !meets (.all hid) u
  | [] => rfl
  | (j, u) :: seen => by
    show (Bool.rec (Tch.rec (fun b _ => Bool.rec false (freeF hid o.bef seen) (hasF hid b)) (fun _ => false) u) (freeF hid o.bef seen) (bitF o.bef j) : Bool) = _
    rw [freeF_eq hid o seen, bitF_eq]
    simp only [apart, List.filter_cons]
    cases o.bef.testBit j with
    | true => simp
    | false =>
      simp only [Bool.not_false, if_true, List.map_cons, List.all_cons]
      cases u with
      | blk b w =>
        simp only [meets, Bool.not_not]
        rw [hasF_eq]
        cases hid.contains b <;> rfl
      | all l => rfl
noncomputable def hideF (hid : List Nat) (H : List Blk) : Nat → List Blk := List.rec (motive := fun _ => Nat → List Blk) (fun _ => []) (fun b _ ih i => Bool.rec b .gone (hasF hid i) :: ih (Nat.succ i)) H
theorem hideF_eq (hid : List Nat) : ∀ (H : List Blk) (i : Nat), hideF hid H i = hide hid i H
  | [], _ => rfl
  | b :: H, i => by
    show (Bool.rec b .gone (hasF hid i) : Blk) :: hideF hid H (Nat.succ i) = _
    rw [hideF_eq hid H, hasF_eq]
    simp only [hide]
    cases hid.contains i <;> rfl
noncomputable def unhideF (hid : List Nat) (H : List Blk) (L : List Blk) : Nat → List Blk := List.rec (motive := fun _ => Nat → List Blk) (fun _ => []) (fun b _ ih i => Bool.rec b (getBF H i) (hasF hid i) :: ih (Nat.succ i)) L
theorem unhideF_eq (hid : List Nat) (H : List Blk) : ∀ (L : List Blk) (i : Nat), unhideF hid H L i = unhide hid H i L
  | [], _ => rfl
  | b :: L, i => by
    show (Bool.rec b (getBF H i) (hasF hid i) : Blk) :: unhideF hid H L (Nat.succ i) = _
    rw [unhideF_eq hid H L, hasF_eq, getBF_eq]
    simp only [unhide]
    cases hid.contains i <;> rfl
noncomputable def noRefG (hid : List Nat) (v : V) : Bool :=
  V.rec (motive_1 := fun _ => Bool) (motive_2 := fun _ => Bool) (fun _ => true) (fun b _ => notB (hasF hid b)) (fun b _ _ _ _ => notB (hasF hid b)) (fun b _ _ => notB (hasF hid b)) (fun b => notB (hasF hid b)) (fun _ _ ih => ih) (fun _ ih => ih) (fun _ ih => ih) true true (fun _ => true) (fun _ => true) true true
    true (fun _ _ ih iht => Bool.rec false iht ih) v
noncomputable def noRefH (hid : List Nat) (vs : List V) : Bool :=
  @V.rec_1 (fun _ => Bool) (fun _ => Bool) (fun _ => true) (fun b _ => notB (hasF hid b)) (fun b _ _ _ _ => notB (hasF hid b)) (fun b _ _ => notB (hasF hid b)) (fun b => notB (hasF hid b)) (fun _ _ ih => ih) (fun _ ih => ih) (fun _ ih => ih) true true (fun _ => true) (fun _ => true) true true
    true (fun _ _ ih iht => Bool.rec false iht ih) vs
mutual
theorem noRefG_eq (hid : List Nat) : ∀ v : V, noRefG hid v = noRef hid.contains v
  | .d x => by simp only [noRef]; rfl
  | .vec b _ => by simp only [noRef]; rw [← hasF_eq, ← notB_eq]; rfl
  | .arr b _ _ _ _ => by simp only [noRef]; rw [← hasF_eq, ← notB_eq]; rfl
  | .ptr b _ _ => by simp only [noRef]; rw [← hasF_eq, ← notB_eq]; rfl
  | .map b => by simp only [noRef]; rw [← hasF_eq, ← notB_eq]; rfl
  | .fn f cap => by
    show noRefH hid cap = _
    rw [noRefH_eq hid cap]; simp only [noRef]
  | .agg cs => by
    show noRefH hid cs = _
    rw [noRefH_eq hid cs]; simp only [noRef]
  | .tup cs => by
    show noRefH hid cs = _
    rw [noRefH_eq hid cs]; simp only [noRef]
  | .nilS => by simp only [noRef]; rfl
  | .e0 => by simp only [noRef]; rfl
  | .nn _ => by simp only [noRef]; rfl
  | .ex _ => by simp only [noRef]; rfl
  | .nilF => by simp only [noRef]; rfl
  | .junk => by simp only [noRef]; rfl
theorem noRefH_eq (hid : List Nat) : ∀ vs : List V, noRefH hid vs = noRefs hid.contains vs
  | [] => by simp only [noRefs]; rfl
  | v :: vs => by
    show (Bool.rec false (noRefH hid vs) (noRefG hid v) : Bool) = _
    rw [noRefH_eq hid vs, noRefG_eq hid v]
    simp only [noRefs]
    cases noRef hid.contains v <;> rfl
end
noncomputable def noRefM (hid : List Nat) (es : List (D × V)) : Bool := List.rec true (fun e _ ih => Bool.rec false ih (noRefG hid e.2)) es
theorem noRefM_eq (hid : List Nat) : ∀ es : List (D × V), noRefM hid es = es.all fun e => noRef hid.contains e.2
  | [] => rfl
  | e :: es => by
    show (Bool.rec false (noRefM hid es) (noRefG hid e.2) : Bool) = _
    rw [noRefM_eq hid es, noRefG_eq, List.all_cons]
    cases noRef hid.contains e.2 <;> rfl
noncomputable def noRefK (hid : List Nat) (b : Blk) : Bool := Blk.rec true true (fun _ cells => noRefH hid cells) (fun _ _ => true) (fun es => noRefM hid es) b
theorem noRefK_eq (hid : List Nat) (b : Blk) : noRefK hid b = noRefB hid.contains b := by
  cases b <;> try rfl
  · exact noRefH_eq hid _
  · exact noRefM_eq hid _
noncomputable def allK (hid : List Nat) (H : List Blk) : Bool := List.rec true (fun b _ ih => Bool.rec false ih (noRefK hid b)) H
theorem allK_eq (hid : List Nat) : ∀ H : List Blk, allK hid H = H.all (noRefB hid.contains)
  | [] => rfl
  | b :: H => by
    show (Bool.rec false (allK hid H) (noRefK hid b) : Bool) = _
    rw [allK_eq hid H, noRefK_eq, List.all_cons]
    cases noRefB hid.contains b <;> rfl
noncomputable def inF (hid : List Nat) (j : Nat) (xs : List V) (H : List Blk) (k : V → List Blk → Option R) : Option R :=
  List.rec (Option.rec none (fun r => k r.1 r.2) (ic j xs H))
    (fun _ _ _ => Option.rec none (fun r => Bool.rec none (k r.1 (unhideF hid H r.2 0)) (Bool.rec false (Bool.rec false (allK hid r.2) (noRefG hid r.1)) (Nat.ble (lenB' H) (lenB' r.2)))) (ic j xs (hideF hid H 0))) hid
theorem inF_eq (hid : List Nat) (j : Nat) (xs : List V) (H : List Blk) (k : V → List Blk → Option R) : inF ic hid j xs H k = (callIn ic hid j xs H).bind fun r => k r.1 r.2 := by
  cases hid with
  | nil =>
    show (Option.rec none (fun r => k r.1 r.2) (ic j xs H) : Option R) = _
    simp only [callIn]
    cases ic j xs H <;> rfl
  | cons h hid =>
    show (Option.rec none (fun r => Bool.rec none (k r.1 (unhideF (h :: hid) H r.2 0)) (Bool.rec false (Bool.rec false (allK (h :: hid) r.2) (noRefG (h :: hid) r.1)) (Nat.ble (lenB' H) (lenB' r.2)))) (ic j xs (hideF (h :: hid) H 0)) : Option R) = _
    rw [hideF_eq]
    simp only [callIn]
    cases ic j xs (hide (h :: hid) 0 H) with
    | none => rfl
    | some r =>
      show (Bool.rec none (k r.1 (unhideF (h :: hid) H r.2 0)) (Bool.rec false (Bool.rec false (allK (h :: hid) r.2) (noRefG (h :: hid) r.1)) (Nat.ble (lenB' H) (lenB' r.2))) : Option R) = _
      rw [allK_eq, noRefG_eq, ble_eq, lenB'_eq, lenB'_eq, unhideF_eq]
      simp only [Option.bind_some]
      by_cases h1 : H.length ≤ r.2.length
      · cases noRef (h :: hid).contains r.1 <;> cases r.2.all (noRefB (h :: hid).contains) <;> simp [h1]
      · simp [h1]
noncomputable def callT0 (hid : List Nat) (op : K) (xs : List V) (H : List Blk) (k : V → List Blk → Option R) : Option R :=
  match op with
  | .icall j => inF ic hid j xs H k
  | .dcall => (callFn ic hid xs H).bind fun r => k r.1 r.2
  | _ => none
noncomputable def callT (o : O) (i base : Nat) (seen : List (Nat × Tch)) (ts : List V) (H : List Blk) (k : List (Nat × Tch) → List V → List Blk → Option R) : Option R :=
  Bool.rec none (callT0 ic (blksF o.bef seen) o.op (evsF ts o.args) H fun v H' => k ((i, .all (blksF o.bef seen)) :: seen) (putF ts o.dst v) H') (Bool.rec false (freeF (blksF o.bef seen) o.bef seen) (belF (lenB' H) (blksF o.bef seen)))
theorem callT_eq {o : O} {ts : List V} (hw : want ts o.guard = some true) (hc : isCall o.op = true) (i base : Nat) (seen : List (Nat × Tch)) (H : List Blk) (k : List (Nat × Tch) → List V → List Blk → Option R) :
    callT ic o i base seen ts H k = if mayBe pc seen (blks (apart seen o)) o ⟨base, ts, H⟩ then (oper pc ic (blks (apart seen o)) o ⟨base, ts, H⟩).bind fun S => k ((i, .all (blks (apart seen o))) :: seen) S.tmps S.heap else none := by
  have hm : mayBe pc seen (blks (apart seen o)) o ⟨base, ts, H⟩ = (Bool.rec false (freeF (blksF o.bef seen) o.bef seen) (belF (lenB' H) (blksF o.bef seen)) : Bool) := by
    rw [freeF_eq, belF_eq, blksF_eq, lenB'_eq]
    simp only [mayBe, touch, hw, hc, if_true, List.all_cons, List.all_nil, Bool.and_true, inH]
    cases (blks (apart seen o)).all fun b => decide (b < H.length) <;> rfl
  unfold callT
  rw [← hm]
  cases mayBe pc seen (blks (apart seen o)) o ⟨base, ts, H⟩ with
  | false => rfl
  | true =>
    simp only [if_true]
    rw [blksF_eq]
    have ho : oper pc ic (blks (apart seen o)) o ⟨base, ts, H⟩ = (exec pc ic (blks (apart seen o)) o.op base (evs ts o.args) H).map fun r => ⟨base, put ts o.dst r.1, r.2⟩ := by
      simp only [oper, hw, Option.bind_some, if_true]
    rw [ho, evsF_eq]
    cases hop : o.op <;> first
      | (rw [hop] at hc; simp [isCall] at hc; done)
      | skip
    · rename_i j
      simp only [callT0, exec]
      rw [inF_eq]
      cases callIn ic (blks (apart seen o)) j (evs ts o.args) H with
      | none => rfl
      | some r => simp only [Option.bind_some, Option.map_some, putF_eq]
    · simp only [callT0, exec]
      cases callFn ic (blks (apart seen o)) (evs ts o.args) H with
      | none => rfl
      | some r => simp only [Option.bind_some, Option.map_some, putF_eq]
noncomputable def drawnF (base : Nat) (os : List O) : Nat → List (Nat × Tch) → List V → List Blk → (List V → List Blk → Option R) → Option R :=
  List.rec (motive := fun _ => Nat → List (Nat × Tch) → List V → List Blk → (List V → List Blk → Option R) → Option R) (fun _ _ ts H k => k ts H)
    (fun o _ ih i seen ts H k => wantF ts o.guard
      (isCallF o.op (callT ic o i base seen ts H fun seen ts H => ih (Nat.succ i) seen ts H k) (oneF pc o i base seen ts H fun seen ts H => ih (Nat.succ i) seen ts H k))
      (ih (Nat.succ i) seen (putF ts o.dst undefV) H k)) os
theorem drawnF_eq (base : Nat) : ∀ (os : List O) (i : Nat) (seen : List (Nat × Tch)) (ts : List V) (H : List Blk) (k : List V → List Blk → Option R), drawnF pc ic base os i seen ts H k = (drawn pc ic os i seen ⟨base, ts, H⟩).bind fun S => k S.tmps S.heap
  | [], i, seen, ts, H, k => rfl
  | o :: os, i, seen, ts, H, k => by
    have ih : ∀ (i : Nat) (seen : List (Nat × Tch)) (ts : List V) (H : List Blk), drawnF pc ic base os i seen ts H k = (drawn pc ic os i seen ⟨base, ts, H⟩).bind fun S => k S.tmps S.heap := fun i seen ts H => drawnF_eq base os i seen ts H k
    show wantF ts o.guard
      (isCallF o.op (callT ic o i base seen ts H fun seen ts H => drawnF pc ic base os (Nat.succ i) seen ts H k) (oneF pc o i base seen ts H fun seen ts H => drawnF pc ic base os (Nat.succ i) seen ts H k))
      (drawnF pc ic base os (Nat.succ i) seen (putF ts o.dst undefV) H k) = _
    rw [wantF_eq]
    simp only [drawn]
    cases hw : want ts o.guard with
    | none => simp [mayBe, touch, hw, oper]
    | some w =>
      cases w with
      | false =>
        simp only [mayBe, touch, hw, oper, List.all_nil, if_true, Option.bind_some, List.map_nil, List.nil_append, Bool.false_eq_true, if_false]
        rw [ih, putF_eq]
      | true =>
        simp only
        cases hc : isCall o.op with
        | true =>
          show (isCallF o.op _ _ : Option R) = _
          unfold isCallF
          rw [hc]
          show callT ic o i base seen ts H _ = _
          rw [callT_eq pc ic hw hc]
          simp only [if_true]
          cases hm : mayBe pc seen (blks (apart seen o)) o ⟨base, ts, H⟩ with
          | false => simp
          | true =>
            simp only [if_true]
            have ht : touch pc (blks (apart seen o)) o ⟨base, ts, H⟩ = [.all (blks (apart seen o))] := by simp only [touch, hw, hc, if_true]
            cases ho : oper pc ic (blks (apart seen o)) o ⟨base, ts, H⟩ with
            | none => rfl
            | some S =>
              have hb : S.base = base := by
                simp only [oper, hw, Option.bind_some, if_true, Option.map_eq_some_iff] at ho
                obtain ⟨r, _, rfl⟩ := ho
                rfl
              simp only [Option.bind_some]
              rw [ih, ht]
              show _ = (drawn pc ic os (i + 1) ((i, .all (blks (apart seen o))) :: seen) S).bind _
              obtain ⟨b, T, H'⟩ := S
              simp only at hb
              subst hb; rfl
        | false =>
          show (isCallF o.op _ _ : Option R) = _
          unfold isCallF
          rw [hc]
          show oneF pc o i base seen ts H _ = _
          unfold oneF
          rw [Eff.goT_eq, evsF_eq]
          simp only [Bool.false_eq_true, if_false]
          have hex : oper pc ic [] o ⟨base, ts, H⟩ = ((act pc base o.op (evs ts o.args)).run H).map fun r => ⟨base, put ts o.dst r.1, r.2⟩ := by
            simp only [oper, hw, Option.bind_some, if_true]
            rw [deed_plain pc ic hc]
          have ht : touch pc [] o ⟨base, ts, H⟩ = ((act pc base o.op (evs ts o.args)).touch H).map fun (b, w) => Tch.blk b w := by
            simp only [touch, hw, hc, Bool.false_eq_true, if_false]
          have hm : mayBe pc seen [] o ⟨base, ts, H⟩ = chkTF (lenB' H) o.bef seen ((act pc base o.op (evs ts o.args)).touch H) := by
            rw [chkTF_eq, lenB'_eq]
            simp only [mayBe, ht]
          rw [hm, hex, ht]
          cases he : (act pc base o.op (evs ts o.args)).run H with
          | none => simp
          | some r =>
            simp only [Option.bind_some, Option.map_some]
            cases hl : (act pc base o.op (evs ts o.args)).touch H with
            | nil =>
              show drawnF pc ic base os (i + 1) seen (putF ts o.dst r.1) r.2 k = _
              rw [ih, putF_eq]; rfl
            | cons x l =>
              show (Bool.rec none (drawnF pc ic base os (i + 1) (mapT i seen (x :: l)) (putF ts o.dst r.1) r.2 k) (chkTF (lenB' H) o.bef seen (x :: l)) : Option R) = _
              rw [ih, putF_eq, mapT_eq]
              cases chkTF (lenB' H) o.bef seen (x :: l) <;> simp
end
end Go.Vm
