/- The bodies of slices.Insert and slices.Clone of this program, walked; what the machine's operations for them are worth. Printed by a program of mine (inst.py). -/
import Derived.Test.YtjffpbodflkehaaGreatDoorProg
import Derived.WalkKit
import Derived.KernelRfl
import Derived.Shelf.Spec.SlicesInsertGrow
import Derived.Shelf.Slices.Clone
import Derived.Test.YtjffpbodflkehaaGreatDoorOVmIns
set_option linter.unusedVariables false
set_option linter.unusedSimpArgs false
namespace Go.Vm.I
open Go.RowKit Go.Lib Go.Proofs
theorem mixed : Tryz.prog.follows Departure.mixedOrders = true := by kernel_rfl

set_option maxHeartbeats 4000000 in
set_option maxRecDepth 100000 in
theorem end259 (base : Option Addr) (n c : Nat) (vA : Option Addr) (vc : Nat) (w w' : World) (v : Value)
    (hap : (Builtin.append_ #[53, 53] 53 #[.slice base n c, .slice vA 1 vc]).run Tryz.prog w = .ok v w') :
    Calls Tryz.prog 259 #[.slice base n c, .int .i64 n, .slice vA 1 vc] w fun e w'' => e = .returned v ∧ w'' = w' := by
  go_enter Tryz.func259, Tryz.ntmps259
  go_wp2_with (at_builtin; refine Lib.wpList_append_run _ rfl _ _ _ _ rfl _ _ rfl rfl _ _ hap ?_)
  all_goals (go_ret; exact ⟨rfl, rfl⟩)

set_option maxHeartbeats 4000000 in
set_option maxRecDepth 100000 in
theorem shift259 (g n c i : Nat) (va : Addr) (vc : Nat) (w w1 w2 : World) (k1 k2 : Int) (hi : i < n) (hroom : n + 1 ≤ c) (hc63 : n + 1 ≤ 9223372036854775807)
    (hov : ∀ lb cb, (callFunc 293 #[.slice (some va) 1 vc, .slice (some ⟨g, (i + 1) * 8, none⟩) lb cb]).run Tryz.prog w = .ok (.value (.bool false)) w)
    (hcp1 : (Builtin.copy_ #[53, 53] 3 #[.slice (some ⟨g, (i + 1) * 8, none⟩) (n + 1 - (i + 1)) (c - (i + 1)), .slice (some ⟨g, i * 8, none⟩) (n + 1 - i) (c - i)]).run Tryz.prog w.drew = .ok (.int .i64 k1) w1)
    (hcp2 : (Builtin.copy_ #[53, 53] 3 #[.slice (some ⟨g, i * 8, none⟩) (n + 1 - i) (c - i), .slice (some va) 1 vc]).run Tryz.prog w1 = .ok (.int .i64 k2) w2) :
    Calls Tryz.prog 259 #[.slice (some ⟨g, 0, none⟩) n c, .int .i64 i, .slice (some va) 1 vc] w fun e w'' => e = .returned (.slice (some ⟨g, 0, none⟩) (n + 1) c) ∧ w'' = w2 := by
  have hz2 : ¬ ((i : Int) = (n : Int)) := by omega
  have hw1 : IntKind.i64.wrap ((i : Int) + 1) = (i : Int) + 1 := by rw [IntKind.wrap_i64]; omega
  have hwn : IntKind.i64.wrap ((n : Int) + 1) = (n : Int) + 1 := by rw [IntKind.wrap_i64]; omega
  have hb1 : (0 : Int) ≤ (i : Int) + 1 := by omega
  have hin : i ≤ n := by omega
  have htn : ((i : Int) + 1).toNat = i + 1 := by omega
  have htm : ((n : Int) + 1).toNat = n + 1 := by omega
  have hb2 : ¬ (c = i + 1) := by omega
  have hb3 : (i : Int) ≤ (n : Int) + 1 := by omega
  have hb4 : ¬ (c = i) := by omega
  have hb5 : ¬ ((c : Int) < (n : Int) + 1) := by omega
  have hb6 : ¬ (c < n + 1) := by omega
  have hb7 : (n : Int) + 1 ≤ (c : Int) := by omega
  have hb8 : (i : Int) + 1 ≤ (n : Int) + 1 := by omega
  have hb9 : (i : Int) ≤ (n : Int) := by omega
  have hb10 : i + 1 ≤ n + 1 := by omega
  have mixed := mixed
  go_enter Tryz.func259, Tryz.ntmps259
  go_wp2_with (simp only [hov])
  go_region_law_o (refine step_copy_runI rfl _ _ 53 53 rfl _ _ (by simp [Act.eval, Act.put]) (by simp [Act.eval, Act.put]) hcp1 ?_)
  go_wp2_with (at_builtin; refine wpList_copy_runI _ rfl _ _ 53 53 rfl _ _ rfl rfl hcp2 ?_)
  go_ret
  exact ⟨rfl, rfl⟩

set_option maxHeartbeats 4000000 in
set_option maxRecDepth 100000 in
theorem grow259 (g n c i G C : Nat) (va : Addr) (vc : Nat) (w w1 w2 w3 : World) (k1 k2 : Int) (hi : i < n) (hnc : n ≤ c) (hroom : c < n + 1) (hC : n + 1 ≤ C) (hc63 : n + 1 ≤ 9223372036854775807)
    (hap : (Builtin.append_ #[53, 3] 53 #[.slice (some ⟨g, 0, none⟩) i c, .int .i64 ((n : Int) + 1 - (i : Int))]).run Tryz.prog w = .ok (.slice (some ⟨G, 0, none⟩) (n + 1) C) w1)
    (hcp1 : (Builtin.copy_ #[53, 53] 3 #[.slice (some ⟨G, i * 8, none⟩) (n + 1 - i) (C - i), .slice (some va) 1 vc]).run Tryz.prog w1 = .ok (.int .i64 k1) w2)
    (hcp2 : (Builtin.copy_ #[53, 53] 3 #[.slice (some ⟨G, (i + 1) * 8, none⟩) (n + 1 - (i + 1)) (C - (i + 1)), .slice (some ⟨g, i * 8, none⟩) (n - i) (c - i)]).run Tryz.prog w2.drew = .ok (.int .i64 k2) w3) :
    Calls Tryz.prog 259 #[.slice (some ⟨g, 0, none⟩) n c, .int .i64 i, .slice (some va) 1 vc] w fun e w'' => e = .returned (.slice (some ⟨G, 0, none⟩) (n + 1) C) ∧ w'' = w3 := by
  have hz2 : ¬ ((i : Int) = (n : Int)) := by omega
  have hw1 : IntKind.i64.wrap ((i : Int) + 1) = (i : Int) + 1 := by rw [IntKind.wrap_i64]; omega
  have hwn : IntKind.i64.wrap ((n : Int) + 1) = (n : Int) + 1 := by rw [IntKind.wrap_i64]; omega
  have hwm : IntKind.i64.wrap ((n : Int) + 1 - (i : Int)) = (n : Int) + 1 - (i : Int) := by rw [IntKind.wrap_i64]; omega
  have hb1 : (0 : Int) ≤ (i : Int) + 1 := by omega
  have hin : i ≤ n := by omega
  have hic : i ≤ c := by omega
  have hicc : (i : Int) ≤ (c : Int) := by omega
  have htn : ((i : Int) + 1).toNat = i + 1 := by omega
  have hb2 : ¬ (C = i + 1) := by omega
  have hb3 : (i : Int) ≤ (n : Int) + 1 := by omega
  have hb4 : ¬ (c = i) := by omega
  have hb4' : ¬ (C = i) := by omega
  have hb5 : (c : Int) < (n : Int) + 1 := by omega
  have hb6 : c < n + 1 := by omega
  have hb8 : (i : Int) + 1 ≤ (n : Int) + 1 := by omega
  have hb9 : (i : Int) ≤ (n : Int) := by omega
  have hb10 : i + 1 ≤ n + 1 := by omega
  have mixed := mixed
  go_enter Tryz.func259, Tryz.ntmps259
  go_wp2_with first
    | (at_builtin; refine Lib.wpList_append_run _ rfl _ _ _ _ rfl _ _ rfl rfl _ _ hap ?_)
    | (at_builtin; refine wpList_copy_runI _ rfl _ _ 53 53 rfl _ _ rfl rfl hcp1 ?_)
  go_region_law_o (refine step_copy_runI rfl _ _ 53 53 rfl _ _ (by simp [Act.eval, Act.put]) (by simp [Act.eval, Act.put]) hcp2 ?_)
  go_wp2
  go_ret
  exact ⟨rfl, rfl⟩

theorem sz259 (w : World) : (Go.sizeOf 50).run Tryz.prog w = .ok 8 w := okSize_ok (by kernel_rfl) w
theorem insW259 : InsW Tryz.prog 259 293 53 50 8 where
  enter := by kernel_rfl
  endW := end259
  ovl w a b la ca lb cb hne tA tB kA kB h1 h2 h3 h4 h5 := by
    rw [run_callFunc_extern Tryz.func293 (by kernel_rfl) (by kernel_rfl) (by kernel_rfl) (e := Extern.SlicesOverlaps.overlaps #[53, 53] #[4]) (by kernel_rfl),
      Lib.run_overlaps_apart w 53 4 50 Tryz.underlying53 8 sz259 a b la ca lb cb hne tA tB kA kB h1 h2 h3 h4 h5]
    rfl
  shift := shift259
  grow := grow259

set_option maxHeartbeats 4000000 in
set_option maxRecDepth 100000 in
theorem end260 (base : Option Addr) (n c : Nat) (vA : Option Addr) (vc : Nat) (w w' : World) (v : Value)
    (hap : (Builtin.append_ #[48, 48] 48 #[.slice base n c, .slice vA 1 vc]).run Tryz.prog w = .ok v w') :
    Calls Tryz.prog 260 #[.slice base n c, .int .i64 n, .slice vA 1 vc] w fun e w'' => e = .returned v ∧ w'' = w' := by
  go_enter Tryz.func260, Tryz.ntmps260
  go_wp2_with (at_builtin; refine Lib.wpList_append_run _ rfl _ _ _ _ rfl _ _ rfl rfl _ _ hap ?_)
  all_goals (go_ret; exact ⟨rfl, rfl⟩)

set_option maxHeartbeats 4000000 in
set_option maxRecDepth 100000 in
theorem shift260 (g n c i : Nat) (va : Addr) (vc : Nat) (w w1 w2 : World) (k1 k2 : Int) (hi : i < n) (hroom : n + 1 ≤ c) (hc63 : n + 1 ≤ 9223372036854775807)
    (hov : ∀ lb cb, (callFunc 295 #[.slice (some va) 1 vc, .slice (some ⟨g, (i + 1) * 2, none⟩) lb cb]).run Tryz.prog w = .ok (.value (.bool false)) w)
    (hcp1 : (Builtin.copy_ #[48, 48] 3 #[.slice (some ⟨g, (i + 1) * 2, none⟩) (n + 1 - (i + 1)) (c - (i + 1)), .slice (some ⟨g, i * 2, none⟩) (n + 1 - i) (c - i)]).run Tryz.prog w.drew = .ok (.int .i64 k1) w1)
    (hcp2 : (Builtin.copy_ #[48, 48] 3 #[.slice (some ⟨g, i * 2, none⟩) (n + 1 - i) (c - i), .slice (some va) 1 vc]).run Tryz.prog w1 = .ok (.int .i64 k2) w2) :
    Calls Tryz.prog 260 #[.slice (some ⟨g, 0, none⟩) n c, .int .i64 i, .slice (some va) 1 vc] w fun e w'' => e = .returned (.slice (some ⟨g, 0, none⟩) (n + 1) c) ∧ w'' = w2 := by
  have hz2 : ¬ ((i : Int) = (n : Int)) := by omega
  have hw1 : IntKind.i64.wrap ((i : Int) + 1) = (i : Int) + 1 := by rw [IntKind.wrap_i64]; omega
  have hwn : IntKind.i64.wrap ((n : Int) + 1) = (n : Int) + 1 := by rw [IntKind.wrap_i64]; omega
  have hb1 : (0 : Int) ≤ (i : Int) + 1 := by omega
  have hin : i ≤ n := by omega
  have htn : ((i : Int) + 1).toNat = i + 1 := by omega
  have htm : ((n : Int) + 1).toNat = n + 1 := by omega
  have hb2 : ¬ (c = i + 1) := by omega
  have hb3 : (i : Int) ≤ (n : Int) + 1 := by omega
  have hb4 : ¬ (c = i) := by omega
  have hb5 : ¬ ((c : Int) < (n : Int) + 1) := by omega
  have hb6 : ¬ (c < n + 1) := by omega
  have hb7 : (n : Int) + 1 ≤ (c : Int) := by omega
  have hb8 : (i : Int) + 1 ≤ (n : Int) + 1 := by omega
  have hb9 : (i : Int) ≤ (n : Int) := by omega
  have hb10 : i + 1 ≤ n + 1 := by omega
  have mixed := mixed
  go_enter Tryz.func260, Tryz.ntmps260
  go_wp2_with (simp only [hov])
  go_region_law_o (refine step_copy_runI rfl _ _ 48 48 rfl _ _ (by simp [Act.eval, Act.put]) (by simp [Act.eval, Act.put]) hcp1 ?_)
  go_wp2_with (at_builtin; refine wpList_copy_runI _ rfl _ _ 48 48 rfl _ _ rfl rfl hcp2 ?_)
  go_ret
  exact ⟨rfl, rfl⟩

set_option maxHeartbeats 4000000 in
set_option maxRecDepth 100000 in
theorem grow260 (g n c i G C : Nat) (va : Addr) (vc : Nat) (w w1 w2 w3 : World) (k1 k2 : Int) (hi : i < n) (hnc : n ≤ c) (hroom : c < n + 1) (hC : n + 1 ≤ C) (hc63 : n + 1 ≤ 9223372036854775807)
    (hap : (Builtin.append_ #[48, 3] 48 #[.slice (some ⟨g, 0, none⟩) i c, .int .i64 ((n : Int) + 1 - (i : Int))]).run Tryz.prog w = .ok (.slice (some ⟨G, 0, none⟩) (n + 1) C) w1)
    (hcp1 : (Builtin.copy_ #[48, 48] 3 #[.slice (some ⟨G, i * 2, none⟩) (n + 1 - i) (C - i), .slice (some va) 1 vc]).run Tryz.prog w1 = .ok (.int .i64 k1) w2)
    (hcp2 : (Builtin.copy_ #[48, 48] 3 #[.slice (some ⟨G, (i + 1) * 2, none⟩) (n + 1 - (i + 1)) (C - (i + 1)), .slice (some ⟨g, i * 2, none⟩) (n - i) (c - i)]).run Tryz.prog w2.drew = .ok (.int .i64 k2) w3) :
    Calls Tryz.prog 260 #[.slice (some ⟨g, 0, none⟩) n c, .int .i64 i, .slice (some va) 1 vc] w fun e w'' => e = .returned (.slice (some ⟨G, 0, none⟩) (n + 1) C) ∧ w'' = w3 := by
  have hz2 : ¬ ((i : Int) = (n : Int)) := by omega
  have hw1 : IntKind.i64.wrap ((i : Int) + 1) = (i : Int) + 1 := by rw [IntKind.wrap_i64]; omega
  have hwn : IntKind.i64.wrap ((n : Int) + 1) = (n : Int) + 1 := by rw [IntKind.wrap_i64]; omega
  have hwm : IntKind.i64.wrap ((n : Int) + 1 - (i : Int)) = (n : Int) + 1 - (i : Int) := by rw [IntKind.wrap_i64]; omega
  have hb1 : (0 : Int) ≤ (i : Int) + 1 := by omega
  have hin : i ≤ n := by omega
  have hic : i ≤ c := by omega
  have hicc : (i : Int) ≤ (c : Int) := by omega
  have htn : ((i : Int) + 1).toNat = i + 1 := by omega
  have hb2 : ¬ (C = i + 1) := by omega
  have hb3 : (i : Int) ≤ (n : Int) + 1 := by omega
  have hb4 : ¬ (c = i) := by omega
  have hb4' : ¬ (C = i) := by omega
  have hb5 : (c : Int) < (n : Int) + 1 := by omega
  have hb6 : c < n + 1 := by omega
  have hb8 : (i : Int) + 1 ≤ (n : Int) + 1 := by omega
  have hb9 : (i : Int) ≤ (n : Int) := by omega
  have hb10 : i + 1 ≤ n + 1 := by omega
  have mixed := mixed
  go_enter Tryz.func260, Tryz.ntmps260
  go_wp2_with first
    | (at_builtin; refine Lib.wpList_append_run _ rfl _ _ _ _ rfl _ _ rfl rfl _ _ hap ?_)
    | (at_builtin; refine wpList_copy_runI _ rfl _ _ 48 48 rfl _ _ rfl rfl hcp1 ?_)
  go_region_law_o (refine step_copy_runI rfl _ _ 48 48 rfl _ _ (by simp [Act.eval, Act.put]) (by simp [Act.eval, Act.put]) hcp2 ?_)
  go_wp2
  go_ret
  exact ⟨rfl, rfl⟩

theorem sz260 (w : World) : (Go.sizeOf 68).run Tryz.prog w = .ok 2 w := okSize_ok (by kernel_rfl) w
theorem insW260 : InsW Tryz.prog 260 295 48 68 2 where
  enter := by kernel_rfl
  endW := end260
  ovl w a b la ca lb cb hne tA tB kA kB h1 h2 h3 h4 h5 := by
    rw [run_callFunc_extern Tryz.func295 (by kernel_rfl) (by kernel_rfl) (by kernel_rfl) (e := Extern.SlicesOverlaps.overlaps #[48, 48] #[4]) (by kernel_rfl),
      Lib.run_overlaps_apart w 48 4 68 Tryz.underlying48 2 sz260 a b la ca lb cb hne tA tB kA kB h1 h2 h3 h4 h5]
    rfl
  shift := shift260
  grow := grow260

set_option maxHeartbeats 4000000 in
set_option maxRecDepth 100000 in
theorem end321 (base : Option Addr) (n c : Nat) (vA : Option Addr) (vc : Nat) (w w' : World) (v : Value)
    (hap : (Builtin.append_ #[27, 27] 27 #[.slice base n c, .slice vA 1 vc]).run Tryz.prog w = .ok v w') :
    Calls Tryz.prog 321 #[.slice base n c, .int .i64 n, .slice vA 1 vc] w fun e w'' => e = .returned v ∧ w'' = w' := by
  go_enter Tryz.func321, Tryz.ntmps321
  go_wp2_with (at_builtin; refine Lib.wpList_append_run _ rfl _ _ _ _ rfl _ _ rfl rfl _ _ hap ?_)
  all_goals (go_ret; exact ⟨rfl, rfl⟩)

set_option maxHeartbeats 4000000 in
set_option maxRecDepth 100000 in
theorem shift321 (g n c i : Nat) (va : Addr) (vc : Nat) (w w1 w2 : World) (k1 k2 : Int) (hi : i < n) (hroom : n + 1 ≤ c) (hc63 : n + 1 ≤ 9223372036854775807)
    (hov : ∀ lb cb, (callFunc 331 #[.slice (some va) 1 vc, .slice (some ⟨g, (i + 1) * 3, none⟩) lb cb]).run Tryz.prog w = .ok (.value (.bool false)) w)
    (hcp1 : (Builtin.copy_ #[27, 27] 3 #[.slice (some ⟨g, (i + 1) * 3, none⟩) (n + 1 - (i + 1)) (c - (i + 1)), .slice (some ⟨g, i * 3, none⟩) (n + 1 - i) (c - i)]).run Tryz.prog w.drew = .ok (.int .i64 k1) w1)
    (hcp2 : (Builtin.copy_ #[27, 27] 3 #[.slice (some ⟨g, i * 3, none⟩) (n + 1 - i) (c - i), .slice (some va) 1 vc]).run Tryz.prog w1 = .ok (.int .i64 k2) w2) :
    Calls Tryz.prog 321 #[.slice (some ⟨g, 0, none⟩) n c, .int .i64 i, .slice (some va) 1 vc] w fun e w'' => e = .returned (.slice (some ⟨g, 0, none⟩) (n + 1) c) ∧ w'' = w2 := by
  have hz2 : ¬ ((i : Int) = (n : Int)) := by omega
  have hw1 : IntKind.i64.wrap ((i : Int) + 1) = (i : Int) + 1 := by rw [IntKind.wrap_i64]; omega
  have hwn : IntKind.i64.wrap ((n : Int) + 1) = (n : Int) + 1 := by rw [IntKind.wrap_i64]; omega
  have hb1 : (0 : Int) ≤ (i : Int) + 1 := by omega
  have hin : i ≤ n := by omega
  have htn : ((i : Int) + 1).toNat = i + 1 := by omega
  have htm : ((n : Int) + 1).toNat = n + 1 := by omega
  have hb2 : ¬ (c = i + 1) := by omega
  have hb3 : (i : Int) ≤ (n : Int) + 1 := by omega
  have hb4 : ¬ (c = i) := by omega
  have hb5 : ¬ ((c : Int) < (n : Int) + 1) := by omega
  have hb6 : ¬ (c < n + 1) := by omega
  have hb7 : (n : Int) + 1 ≤ (c : Int) := by omega
  have hb8 : (i : Int) + 1 ≤ (n : Int) + 1 := by omega
  have hb9 : (i : Int) ≤ (n : Int) := by omega
  have hb10 : i + 1 ≤ n + 1 := by omega
  have mixed := mixed
  go_enter Tryz.func321, Tryz.ntmps321
  go_wp2_with (simp only [hov])
  go_region_law_o (refine step_copy_runI rfl _ _ 27 27 rfl _ _ (by simp [Act.eval, Act.put]) (by simp [Act.eval, Act.put]) hcp1 ?_)
  go_wp2_with (at_builtin; refine wpList_copy_runI _ rfl _ _ 27 27 rfl _ _ rfl rfl hcp2 ?_)
  go_ret
  exact ⟨rfl, rfl⟩

set_option maxHeartbeats 4000000 in
set_option maxRecDepth 100000 in
theorem grow321 (g n c i G C : Nat) (va : Addr) (vc : Nat) (w w1 w2 w3 : World) (k1 k2 : Int) (hi : i < n) (hnc : n ≤ c) (hroom : c < n + 1) (hC : n + 1 ≤ C) (hc63 : n + 1 ≤ 9223372036854775807)
    (hap : (Builtin.append_ #[27, 3] 27 #[.slice (some ⟨g, 0, none⟩) i c, .int .i64 ((n : Int) + 1 - (i : Int))]).run Tryz.prog w = .ok (.slice (some ⟨G, 0, none⟩) (n + 1) C) w1)
    (hcp1 : (Builtin.copy_ #[27, 27] 3 #[.slice (some ⟨G, i * 3, none⟩) (n + 1 - i) (C - i), .slice (some va) 1 vc]).run Tryz.prog w1 = .ok (.int .i64 k1) w2)
    (hcp2 : (Builtin.copy_ #[27, 27] 3 #[.slice (some ⟨G, (i + 1) * 3, none⟩) (n + 1 - (i + 1)) (C - (i + 1)), .slice (some ⟨g, i * 3, none⟩) (n - i) (c - i)]).run Tryz.prog w2.drew = .ok (.int .i64 k2) w3) :
    Calls Tryz.prog 321 #[.slice (some ⟨g, 0, none⟩) n c, .int .i64 i, .slice (some va) 1 vc] w fun e w'' => e = .returned (.slice (some ⟨G, 0, none⟩) (n + 1) C) ∧ w'' = w3 := by
  have hz2 : ¬ ((i : Int) = (n : Int)) := by omega
  have hw1 : IntKind.i64.wrap ((i : Int) + 1) = (i : Int) + 1 := by rw [IntKind.wrap_i64]; omega
  have hwn : IntKind.i64.wrap ((n : Int) + 1) = (n : Int) + 1 := by rw [IntKind.wrap_i64]; omega
  have hwm : IntKind.i64.wrap ((n : Int) + 1 - (i : Int)) = (n : Int) + 1 - (i : Int) := by rw [IntKind.wrap_i64]; omega
  have hb1 : (0 : Int) ≤ (i : Int) + 1 := by omega
  have hin : i ≤ n := by omega
  have hic : i ≤ c := by omega
  have hicc : (i : Int) ≤ (c : Int) := by omega
  have htn : ((i : Int) + 1).toNat = i + 1 := by omega
  have hb2 : ¬ (C = i + 1) := by omega
  have hb3 : (i : Int) ≤ (n : Int) + 1 := by omega
  have hb4 : ¬ (c = i) := by omega
  have hb4' : ¬ (C = i) := by omega
  have hb5 : (c : Int) < (n : Int) + 1 := by omega
  have hb6 : c < n + 1 := by omega
  have hb8 : (i : Int) + 1 ≤ (n : Int) + 1 := by omega
  have hb9 : (i : Int) ≤ (n : Int) := by omega
  have hb10 : i + 1 ≤ n + 1 := by omega
  have mixed := mixed
  go_enter Tryz.func321, Tryz.ntmps321
  go_wp2_with first
    | (at_builtin; refine Lib.wpList_append_run _ rfl _ _ _ _ rfl _ _ rfl rfl _ _ hap ?_)
    | (at_builtin; refine wpList_copy_runI _ rfl _ _ 27 27 rfl _ _ rfl rfl hcp1 ?_)
  go_region_law_o (refine step_copy_runI rfl _ _ 27 27 rfl _ _ (by simp [Act.eval, Act.put]) (by simp [Act.eval, Act.put]) hcp2 ?_)
  go_wp2
  go_ret
  exact ⟨rfl, rfl⟩

theorem sz321 (w : World) : (Go.sizeOf 78).run Tryz.prog w = .ok 3 w := okSize_ok (by kernel_rfl) w
theorem insW321 : InsW Tryz.prog 321 331 27 78 3 where
  enter := by kernel_rfl
  endW := end321
  ovl w a b la ca lb cb hne tA tB kA kB h1 h2 h3 h4 h5 := by
    rw [run_callFunc_extern Tryz.func331 (by kernel_rfl) (by kernel_rfl) (by kernel_rfl) (e := Extern.SlicesOverlaps.overlaps #[27, 27] #[4]) (by kernel_rfl),
      Lib.run_overlaps_apart w 27 4 78 Tryz.underlying27 3 sz321 a b la ca lb cb hne tA tB kA kB h1 h2 h3 h4 h5]
    rfl
  shift := shift321
  grow := grow321

set_option maxRecDepth 100000 in
theorem nil114 (n c : Nat) (w : World) : Calls Tryz.prog 114 #[.slice none n c] w fun e w'' => e = .returned (.slice none 0 0) ∧ w'' = w := by
  have q : ∀ (w : World) (a : Option Addr) (n c n' c' : Nat), (binOp .eql 32 (.slice a n c) (.slice none n' c')).run Tryz.prog w = .ok (.bool a.isNone) w := fun w a n c n' c' => Lib.run_eql_slice_nil w _ _ a n c n' c' Tryz.underlying32
  go_enter Tryz.func114, Tryz.ntmps114
  go_wp2
  go_ret
  exact ⟨rfl, rfl⟩
set_option maxHeartbeats 4000000 in
set_option maxRecDepth 100000 in
theorem some114 (a : Addr) (n c : Nat) (w w' : World) (v : Value)
    (hap : (Builtin.append_ #[32, 32] 32 #[.slice (some ⟨w.heap.size, 0, none⟩) 0 0, .slice (some a) n c]).run Tryz.prog (w.alloc (.cells #[] 9)) = .ok v w') :
    Calls Tryz.prog 114 #[.slice (some a) n c] w fun e w'' => e = .returned v ∧ w'' = w' := by
  have q : ∀ (w : World) (a : Option Addr) (n c n' c' : Nat), (binOp .eql 32 (.slice a n c) (.slice none n' c')).run Tryz.prog w = .ok (.bool a.isNone) w := fun w a n c n' c' => Lib.run_eql_slice_nil w _ _ a n c n' c' Tryz.underlying32
  go_enter Tryz.func114, Tryz.ntmps114
  go_wp2_with (at_builtin; refine Lib.wpList_append_run _ rfl _ _ _ _ rfl _ _ rfl rfl _ _ hap ?_)
  go_ret
  exact ⟨rfl, rfl⟩
theorem cloneW114 : CloneW Tryz.prog 114 32 9 := ⟨by kernel_rfl, nil114, some114⟩

set_option maxRecDepth 100000 in
theorem nil174 (n c : Nat) (w : World) : Calls Tryz.prog 174 #[.slice none n c] w fun e w'' => e = .returned (.slice none 0 0) ∧ w'' = w := by
  have q : ∀ (w : World) (a : Option Addr) (n c n' c' : Nat), (binOp .eql 26 (.slice a n c) (.slice none n' c')).run Tryz.prog w = .ok (.bool a.isNone) w := fun w a n c n' c' => Lib.run_eql_slice_nil w _ _ a n c n' c' Tryz.underlying26
  go_enter Tryz.func174, Tryz.ntmps174
  go_wp2
  go_ret
  exact ⟨rfl, rfl⟩
set_option maxHeartbeats 4000000 in
set_option maxRecDepth 100000 in
theorem some174 (a : Addr) (n c : Nat) (w w' : World) (v : Value)
    (hap : (Builtin.append_ #[26, 26] 26 #[.slice (some ⟨w.heap.size, 0, none⟩) 0 0, .slice (some a) n c]).run Tryz.prog (w.alloc (.cells #[] 55)) = .ok v w') :
    Calls Tryz.prog 174 #[.slice (some a) n c] w fun e w'' => e = .returned v ∧ w'' = w' := by
  have q : ∀ (w : World) (a : Option Addr) (n c n' c' : Nat), (binOp .eql 26 (.slice a n c) (.slice none n' c')).run Tryz.prog w = .ok (.bool a.isNone) w := fun w a n c n' c' => Lib.run_eql_slice_nil w _ _ a n c n' c' Tryz.underlying26
  go_enter Tryz.func174, Tryz.ntmps174
  go_wp2_with (at_builtin; refine Lib.wpList_append_run _ rfl _ _ _ _ rfl _ _ rfl rfl _ _ hap ?_)
  go_ret
  exact ⟨rfl, rfl⟩
theorem cloneW174 : CloneW Tryz.prog 174 26 55 := ⟨by kernel_rfl, nil174, some174⟩

set_option maxRecDepth 100000 in
theorem nil187 (n c : Nat) (w : World) : Calls Tryz.prog 187 #[.slice none n c] w fun e w'' => e = .returned (.slice none 0 0) ∧ w'' = w := by
  have q : ∀ (w : World) (a : Option Addr) (n c n' c' : Nat), (binOp .eql 27 (.slice a n c) (.slice none n' c')).run Tryz.prog w = .ok (.bool a.isNone) w := fun w a n c n' c' => Lib.run_eql_slice_nil w _ _ a n c n' c' Tryz.underlying27
  go_enter Tryz.func187, Tryz.ntmps187
  go_wp2
  go_ret
  exact ⟨rfl, rfl⟩
set_option maxHeartbeats 4000000 in
set_option maxRecDepth 100000 in
theorem some187 (a : Addr) (n c : Nat) (w w' : World) (v : Value)
    (hap : (Builtin.append_ #[27, 27] 27 #[.slice (some ⟨w.heap.size, 0, none⟩) 0 0, .slice (some a) n c]).run Tryz.prog (w.alloc (.cells #[] 78)) = .ok v w') :
    Calls Tryz.prog 187 #[.slice (some a) n c] w fun e w'' => e = .returned v ∧ w'' = w' := by
  have q : ∀ (w : World) (a : Option Addr) (n c n' c' : Nat), (binOp .eql 27 (.slice a n c) (.slice none n' c')).run Tryz.prog w = .ok (.bool a.isNone) w := fun w a n c n' c' => Lib.run_eql_slice_nil w _ _ a n c n' c' Tryz.underlying27
  go_enter Tryz.func187, Tryz.ntmps187
  go_wp2_with (at_builtin; refine Lib.wpList_append_run _ rfl _ _ _ _ rfl _ _ rfl rfl _ _ hap ?_)
  go_ret
  exact ⟨rfl, rfl⟩
theorem cloneW187 : CloneW Tryz.prog 187 27 78 := ⟨by kernel_rfl, nil187, some187⟩

set_option maxRecDepth 100000 in
theorem nil257 (n c : Nat) (w : World) : Calls Tryz.prog 257 #[.slice none n c] w fun e w'' => e = .returned (.slice none 0 0) ∧ w'' = w := by
  have q : ∀ (w : World) (a : Option Addr) (n c n' c' : Nat), (binOp .eql 48 (.slice a n c) (.slice none n' c')).run Tryz.prog w = .ok (.bool a.isNone) w := fun w a n c n' c' => Lib.run_eql_slice_nil w _ _ a n c n' c' Tryz.underlying48
  go_enter Tryz.func257, Tryz.ntmps257
  go_wp2
  go_ret
  exact ⟨rfl, rfl⟩
set_option maxHeartbeats 4000000 in
set_option maxRecDepth 100000 in
theorem some257 (a : Addr) (n c : Nat) (w w' : World) (v : Value)
    (hap : (Builtin.append_ #[48, 48] 48 #[.slice (some ⟨w.heap.size, 0, none⟩) 0 0, .slice (some a) n c]).run Tryz.prog (w.alloc (.cells #[] 68)) = .ok v w') :
    Calls Tryz.prog 257 #[.slice (some a) n c] w fun e w'' => e = .returned v ∧ w'' = w' := by
  have q : ∀ (w : World) (a : Option Addr) (n c n' c' : Nat), (binOp .eql 48 (.slice a n c) (.slice none n' c')).run Tryz.prog w = .ok (.bool a.isNone) w := fun w a n c n' c' => Lib.run_eql_slice_nil w _ _ a n c n' c' Tryz.underlying48
  go_enter Tryz.func257, Tryz.ntmps257
  go_wp2_with (at_builtin; refine Lib.wpList_append_run _ rfl _ _ _ _ rfl _ _ rfl rfl _ _ hap ?_)
  go_ret
  exact ⟨rfl, rfl⟩
theorem cloneW257 : CloneW Tryz.prog 257 48 68 := ⟨by kernel_rfl, nil257, some257⟩

set_option maxRecDepth 100000 in
theorem nil290 (n c : Nat) (w : World) : Calls Tryz.prog 290 #[.slice none n c] w fun e w'' => e = .returned (.slice none 0 0) ∧ w'' = w := by
  have q : ∀ (w : World) (a : Option Addr) (n c n' c' : Nat), (binOp .eql 45 (.slice a n c) (.slice none n' c')).run Tryz.prog w = .ok (.bool a.isNone) w := fun w a n c n' c' => Lib.run_eql_slice_nil w _ _ a n c n' c' Tryz.underlying45
  go_enter Tryz.func290, Tryz.ntmps290
  go_wp2
  go_ret
  exact ⟨rfl, rfl⟩
set_option maxHeartbeats 4000000 in
set_option maxRecDepth 100000 in
theorem some290 (a : Addr) (n c : Nat) (w w' : World) (v : Value)
    (hap : (Builtin.append_ #[45, 45] 45 #[.slice (some ⟨w.heap.size, 0, none⟩) 0 0, .slice (some a) n c]).run Tryz.prog (w.alloc (.cells #[] 224)) = .ok v w') :
    Calls Tryz.prog 290 #[.slice (some a) n c] w fun e w'' => e = .returned v ∧ w'' = w' := by
  have q : ∀ (w : World) (a : Option Addr) (n c n' c' : Nat), (binOp .eql 45 (.slice a n c) (.slice none n' c')).run Tryz.prog w = .ok (.bool a.isNone) w := fun w a n c n' c' => Lib.run_eql_slice_nil w _ _ a n c n' c' Tryz.underlying45
  go_enter Tryz.func290, Tryz.ntmps290
  go_wp2_with (at_builtin; refine Lib.wpList_append_run _ rfl _ _ _ _ rfl _ _ rfl rfl _ _ hap ?_)
  go_ret
  exact ⟨rfl, rfl⟩
theorem cloneW290 : CloneW Tryz.prog 290 45 224 := ⟨by kernel_rfl, nil290, some290⟩

set_option maxRecDepth 100000 in
theorem nil291 (n c : Nat) (w : World) : Calls Tryz.prog 291 #[.slice none n c] w fun e w'' => e = .returned (.slice none 0 0) ∧ w'' = w := by
  have q : ∀ (w : World) (a : Option Addr) (n c n' c' : Nat), (binOp .eql 22 (.slice a n c) (.slice none n' c')).run Tryz.prog w = .ok (.bool a.isNone) w := fun w a n c n' c' => Lib.run_eql_slice_nil w _ _ a n c n' c' Tryz.underlying22
  go_enter Tryz.func291, Tryz.ntmps291
  go_wp2
  go_ret
  exact ⟨rfl, rfl⟩
set_option maxHeartbeats 4000000 in
set_option maxRecDepth 100000 in
theorem some291 (a : Addr) (n c : Nat) (w w' : World) (v : Value)
    (hap : (Builtin.append_ #[22, 22] 22 #[.slice (some ⟨w.heap.size, 0, none⟩) 0 0, .slice (some a) n c]).run Tryz.prog (w.alloc (.cells #[] 5)) = .ok v w') :
    Calls Tryz.prog 291 #[.slice (some a) n c] w fun e w'' => e = .returned v ∧ w'' = w' := by
  have q : ∀ (w : World) (a : Option Addr) (n c n' c' : Nat), (binOp .eql 22 (.slice a n c) (.slice none n' c')).run Tryz.prog w = .ok (.bool a.isNone) w := fun w a n c n' c' => Lib.run_eql_slice_nil w _ _ a n c n' c' Tryz.underlying22
  go_enter Tryz.func291, Tryz.ntmps291
  go_wp2_with (at_builtin; refine Lib.wpList_append_run _ rfl _ _ _ _ rfl _ _ rfl rfl _ _ hap ?_)
  go_ret
  exact ⟨rfl, rfl⟩
theorem cloneW291 : CloneW Tryz.prog 291 22 5 := ⟨by kernel_rfl, nil291, some291⟩

set_option maxRecDepth 100000 in
theorem nil292 (n c : Nat) (w : World) : Calls Tryz.prog 292 #[.slice none n c] w fun e w'' => e = .returned (.slice none 0 0) ∧ w'' = w := by
  have q : ∀ (w : World) (a : Option Addr) (n c n' c' : Nat), (binOp .eql 53 (.slice a n c) (.slice none n' c')).run Tryz.prog w = .ok (.bool a.isNone) w := fun w a n c n' c' => Lib.run_eql_slice_nil w _ _ a n c n' c' Tryz.underlying53
  go_enter Tryz.func292, Tryz.ntmps292
  go_wp2
  go_ret
  exact ⟨rfl, rfl⟩
set_option maxHeartbeats 4000000 in
set_option maxRecDepth 100000 in
theorem some292 (a : Addr) (n c : Nat) (w w' : World) (v : Value)
    (hap : (Builtin.append_ #[53, 53] 53 #[.slice (some ⟨w.heap.size, 0, none⟩) 0 0, .slice (some a) n c]).run Tryz.prog (w.alloc (.cells #[] 50)) = .ok v w') :
    Calls Tryz.prog 292 #[.slice (some a) n c] w fun e w'' => e = .returned v ∧ w'' = w' := by
  have q : ∀ (w : World) (a : Option Addr) (n c n' c' : Nat), (binOp .eql 53 (.slice a n c) (.slice none n' c')).run Tryz.prog w = .ok (.bool a.isNone) w := fun w a n c n' c' => Lib.run_eql_slice_nil w _ _ a n c n' c' Tryz.underlying53
  go_enter Tryz.func292, Tryz.ntmps292
  go_wp2_with (at_builtin; refine Lib.wpList_append_run _ rfl _ _ _ _ rfl _ _ rfl rfl _ _ hap ?_)
  go_ret
  exact ⟨rfl, rfl⟩
theorem cloneW292 : CloneW Tryz.prog 292 53 50 := ⟨by kernel_rfl, nil292, some292⟩

def insT (f sz bytes : Nat) : Bool := (Nat.beq f 259 && Nat.beq sz 8 && Nat.beq bytes 104) || (Nat.beq f 260 && Nat.beq sz 2 && Nat.beq bytes 24) || (Nat.beq f 321 && Nat.beq sz 3 && Nat.beq bytes 24)
def clT (f sz bytes : Nat) : Bool := (Nat.beq f 114 && Nat.beq sz 1 && Nat.beq bytes 16) || (Nat.beq f 174 && Nat.beq sz 4 && Nat.beq bytes 48) || (Nat.beq f 187 && Nat.beq sz 3 && Nat.beq bytes 24) || (Nat.beq f 257 && Nat.beq sz 2 && Nat.beq bytes 24) || (Nat.beq f 290 && Nat.beq sz 2 && Nat.beq bytes 32) || (Nat.beq f 291 && Nat.beq sz 1 && Nat.beq bytes 1) || (Nat.beq f 292 && Nat.beq sz 8 && Nat.beq bytes 104)
noncomputable def fidT (j : Nat) : Nat := Bool.rec j (Nat.sub j 10000) (Nat.ble 10000 j)
noncomputable def ET : Env := ⟨fidT, insT, fun _ _ _ => false, clT⟩
theorem i3 : Tryz.prog.underlying 3 = some (.int .i64) := by kernel_rfl
theorem spec : Spec Tryz.prog ET where
  ins f sz bytes h o ρ w G H pc base b ls ts xs ho hρ hx hs := by
    simp only [ET, insT, Bool.or_eq_true, Bool.and_eq_true, Nat.beq_eq] at h
    rcases h with (⟨⟨rfl, rfl⟩, rfl⟩ | ⟨⟨rfl, rfl⟩, rfl⟩) | ⟨⟨rfl, rfl⟩, rfl⟩
    · exact insA_ok (by kernel_rfl) i3 insW259 ho hρ hx hs
    · exact insA_ok (by kernel_rfl) i3 insW260 ho hρ hx hs
    · exact insA_ok (by kernel_rfl) i3 insW321 ho hρ hx hs
  grow f sz bytes h := by cases h
  cloneA f sz bytes h o ρ w G H pc base b ls ts xs ho hρ hx hs := by
    simp only [ET, clT, Bool.or_eq_true, Bool.and_eq_true, Nat.beq_eq] at h
    rcases h with (((((⟨⟨rfl, rfl⟩, rfl⟩ | ⟨⟨rfl, rfl⟩, rfl⟩) | ⟨⟨rfl, rfl⟩, rfl⟩) | ⟨⟨rfl, rfl⟩, rfl⟩) | ⟨⟨rfl, rfl⟩, rfl⟩) | ⟨⟨rfl, rfl⟩, rfl⟩) | ⟨⟨rfl, rfl⟩, rfl⟩
    · exact cloneA_ok (by kernel_rfl) cloneW114 ho hρ hx hs
    · exact cloneA_ok (by kernel_rfl) cloneW174 ho hρ hx hs
    · exact cloneA_ok (by kernel_rfl) cloneW187 ho hρ hx hs
    · exact cloneA_ok (by kernel_rfl) cloneW257 ho hρ hx hs
    · exact cloneA_ok (by kernel_rfl) cloneW290 ho hρ hx hs
    · exact cloneA_ok (by kernel_rfl) cloneW291 ho hρ hx hs
    · exact cloneA_ok (by kernel_rfl) cloneW292 ho hρ hx hs
  cloneV f sz bytes h o ρ w G H pc base b ls ts xs ho hρ hx hs := by
    simp only [ET, clT, Bool.or_eq_true, Bool.and_eq_true, Nat.beq_eq] at h
    rcases h with (((((⟨⟨rfl, rfl⟩, rfl⟩ | ⟨⟨rfl, rfl⟩, rfl⟩) | ⟨⟨rfl, rfl⟩, rfl⟩) | ⟨⟨rfl, rfl⟩, rfl⟩) | ⟨⟨rfl, rfl⟩, rfl⟩) | ⟨⟨rfl, rfl⟩, rfl⟩) | ⟨⟨rfl, rfl⟩, rfl⟩
    · exact cloneV_ok (by kernel_rfl) cloneW114 ho hρ hx hs
    · exact cloneV_ok (by kernel_rfl) cloneW174 ho hρ hx hs
    · exact cloneV_ok (by kernel_rfl) cloneW187 ho hρ hx hs
    · exact cloneV_ok (by kernel_rfl) cloneW257 ho hρ hx hs
    · exact cloneV_ok (by kernel_rfl) cloneW290 ho hρ hx hs
    · exact cloneV_ok (by kernel_rfl) cloneW291 ho hρ hx hs
    · exact cloneV_ok (by kernel_rfl) cloneW292 ho hρ hx hs
end Go.Vm.I
