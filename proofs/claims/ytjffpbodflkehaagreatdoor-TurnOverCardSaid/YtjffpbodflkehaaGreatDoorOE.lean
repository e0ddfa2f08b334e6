/- The law's run in the machine: true, whatever the arguments. -/
import Derived.Test.YtjffpbodflkehaaGreatDoorOE1
import Derived.Test.YtjffpbodflkehaaGreatDoorOE2
import Derived.Test.YtjffpbodflkehaaGreatDoorOE3
import Derived.Test.YtjffpbodflkehaaGreatDoorOE4
import Derived.Test.YtjffpbodflkehaaGreatDoorOE5
import Derived.Test.YtjffpbodflkehaaGreatDoorOE6
import Derived.KernelRfl
set_option maxRecDepth 1000000
namespace Go.Vm.T
open Go.Vm.I
def isT : Option D → Bool
  | some (.bool b) => b
  | _ => false
theorem isT_ok : ∀ {x : Option D}, isT x = true → x = some (.bool true)
  | some (.bool true), _ => rfl
  | some (.bool false), h => by cases h
  | none, h => by cases h
  | some (.int ..), h => by cases h
  | some (.str _), h => by cases h
  | some (.agg _), h => by cases h
  | some (.tup _), h => by cases h
  | some (.list _), h => by cases h
  | some .nilI, h => by cases h
  | some (.ifc ..), h => by cases h
  | some (.ref _), h => by cases h
  | some .nilp, h => by cases h
noncomputable def allN (k : Nat) (p : Nat → Bool) : Bool := Nat.rec true (fun n ih => Bool.rec false ih (p n)) k
theorem allN_get {p : Nat → Bool} : ∀ {k : Nat}, allN k p = true → ∀ n, n < k → p n = true
  | 0, _, n, h => by omega
  | k + 1, h, n, hn => by
    have h' : (Bool.rec false (allN k p) (p k) : Bool) = true := h
    cases hp : p k with
    | false => rw [hp] at h'; cases h'
    | true =>
      rw [hp] at h'
      rcases Nat.lt_or_ge n k with hk | hk
      · exact allN_get h' n hk
      · have : n = k := by omega
        subst this
        exact hp
/-- A letter beside two letters. -/
noncomputable def but (a b n : Nat) (r : Bool) : Bool := Bool.rec (Bool.rec r true (Nat.beq n b)) true (Nat.beq n a)
theorem but_get {a b n : Nat} {r : Bool} (h : but a b n r = true) (ha : n ≠ a) (hb : n ≠ b) : r = true := by
  unfold but at h
  have e1 : Nat.beq n a = false := by cases hx : Nat.beq n a with | false => rfl | true => exact absurd (Nat.eq_of_beq_eq_true hx) ha
  have e2 : Nat.beq n b = false := by cases hx : Nat.beq n b with | false => rfl | true => exact absurd (Nat.eq_of_beq_eq_true hx) hb
  rw [e1, e2] at h
  exact h
theorem letter {f : UInt8 → Option D} {a b : Nat} (h : allN 256 (fun n => but a b n (isT (f (UInt8.ofNat n)))) = true) (x : UInt8) (ha : x.toNat ≠ a) (hb : x.toNat ≠ b) : f x = some (.bool true) := by
  have := but_get (allN_get h x.toNat x.toNat_lt) ha hb
  rw [UInt8.ofNat_toNat] at this
  exact isT_ok this
theorem e0 (f t : List UInt8) : pcallS Ph2 100000 8 [.int .i64 (Int.ofNat 0), .str f, .str t] = some (.bool true) := by kernel_rfl
theorem eN (m : Nat) (f t : List UInt8) : pcallS Ph2 100000 8 [.int .i64 (Int.negSucc m), .str f, .str t] = some (.bool true) := by kernel_rfl
theorem eP (m : Nat) (f t : List UInt8) : pcallS Ph2 100000 8 [.int .i64 (Int.ofNat (Nat.succ (Nat.succ (Nat.succ (Nat.succ m))))), .str f, .str t] = some (.bool true) := by kernel_rfl
theorem a1 (t : List UInt8) : pcallS Ph2 100000 8 [.int .i64 (.ofNat 1), .str [], .str t] = some (.bool true) := by kernel_rfl
theorem b1 (x y : UInt8) (r t : List UInt8) : pcallS Ph2 100000 8 [.int .i64 (.ofNat 1), .str (x :: y :: r), .str t] = some (.bool true) := by kernel_rfl
theorem c1 (t : List UInt8) : allN 256 (fun n => but 102 115 n (isT ((fun x => pcallS Ph2 100000 8 [.int .i64 (.ofNat 1), .str [x], .str t]) (UInt8.ofNat n)))) = true := by kernel_rfl
theorem d1_102 : pcallS Ph2 100000 8 [.int .i64 (.ofNat 1), .str [102], .str []] = some (.bool true) := by kernel_rfl
theorem g1_102 (x y : UInt8) (r : List UInt8) : pcallS Ph2 100000 8 [.int .i64 (.ofNat 1), .str [102], .str (x :: y :: r)] = some (.bool true) := by kernel_rfl
theorem h1_102 : allN 256 (fun n => but 102 115 n (isT ((fun x => pcallS Ph2 100000 8 [.int .i64 (.ofNat 1), .str [102], .str [x]]) (UInt8.ofNat n)))) = true := by kernel_rfl
theorem s1_102 : pcallS Ph2 100000 8 [.int .i64 (.ofNat 1), .str [102], .str [102]] = some (.bool true) := by kernel_rfl
theorem t1_102 (t : List UInt8) : pcallS Ph2 100000 8 [.int .i64 (.ofNat 1), .str [102], .str t] = some (.bool true) := by
  match t with
  | [] => exact d1_102
  | x :: y :: r => exact g1_102 x y r
  | [x] =>
    by_cases h1 : x.toNat = 102
    · obtain rfl : x = 102 := UInt8.toNat.inj h1
      exact s1_102
    · by_cases h2 : x.toNat = 115
      · obtain rfl : x = 115 := UInt8.toNat.inj h2
        exact ev0
      · exact letter (f := fun x => pcallS Ph2 100000 8 [.int .i64 (.ofNat 1), .str [102], .str [x]]) h1_102 x h1 h2
theorem d1_115 : pcallS Ph2 100000 8 [.int .i64 (.ofNat 1), .str [115], .str []] = some (.bool true) := by kernel_rfl
theorem g1_115 (x y : UInt8) (r : List UInt8) : pcallS Ph2 100000 8 [.int .i64 (.ofNat 1), .str [115], .str (x :: y :: r)] = some (.bool true) := by kernel_rfl
theorem h1_115 : allN 256 (fun n => but 102 115 n (isT ((fun x => pcallS Ph2 100000 8 [.int .i64 (.ofNat 1), .str [115], .str [x]]) (UInt8.ofNat n)))) = true := by kernel_rfl
theorem s1_115 : pcallS Ph2 100000 8 [.int .i64 (.ofNat 1), .str [115], .str [115]] = some (.bool true) := by kernel_rfl
theorem t1_115 (t : List UInt8) : pcallS Ph2 100000 8 [.int .i64 (.ofNat 1), .str [115], .str t] = some (.bool true) := by
  match t with
  | [] => exact d1_115
  | x :: y :: r => exact g1_115 x y r
  | [x] =>
    by_cases h1 : x.toNat = 102
    · obtain rfl : x = 102 := UInt8.toNat.inj h1
      exact ev1
    · by_cases h2 : x.toNat = 115
      · obtain rfl : x = 115 := UInt8.toNat.inj h2
        exact s1_115
      · exact letter (f := fun x => pcallS Ph2 100000 8 [.int .i64 (.ofNat 1), .str [115], .str [x]]) h1_115 x h1 h2
theorem law1 (f t : List UInt8) : pcallS Ph2 100000 8 [.int .i64 (.ofNat 1), .str f, .str t] = some (.bool true) := by
  match f with
  | [] => exact a1 t
  | x :: y :: r => exact b1 x y r t
  | [x] =>
    by_cases h1 : x.toNat = 102
    · obtain rfl : x = 102 := UInt8.toNat.inj h1
      exact t1_102 t
    · by_cases h2 : x.toNat = 115
      · obtain rfl : x = 115 := UInt8.toNat.inj h2
        exact t1_115 t
      · exact letter (f := fun x => pcallS Ph2 100000 8 [.int .i64 (.ofNat 1), .str [x], .str t]) (c1 t) x h1 h2
theorem a2 (t : List UInt8) : pcallS Ph2 100000 8 [.int .i64 (.ofNat 2), .str [], .str t] = some (.bool true) := by kernel_rfl
theorem b2 (x y : UInt8) (r t : List UInt8) : pcallS Ph2 100000 8 [.int .i64 (.ofNat 2), .str (x :: y :: r), .str t] = some (.bool true) := by kernel_rfl
theorem c2 (t : List UInt8) : allN 256 (fun n => but 102 115 n (isT ((fun x => pcallS Ph2 100000 8 [.int .i64 (.ofNat 2), .str [x], .str t]) (UInt8.ofNat n)))) = true := by kernel_rfl
theorem d2_102 : pcallS Ph2 100000 8 [.int .i64 (.ofNat 2), .str [102], .str []] = some (.bool true) := by kernel_rfl
theorem g2_102 (x y : UInt8) (r : List UInt8) : pcallS Ph2 100000 8 [.int .i64 (.ofNat 2), .str [102], .str (x :: y :: r)] = some (.bool true) := by kernel_rfl
theorem h2_102 : allN 256 (fun n => but 102 115 n (isT ((fun x => pcallS Ph2 100000 8 [.int .i64 (.ofNat 2), .str [102], .str [x]]) (UInt8.ofNat n)))) = true := by kernel_rfl
theorem s2_102 : pcallS Ph2 100000 8 [.int .i64 (.ofNat 2), .str [102], .str [102]] = some (.bool true) := by kernel_rfl
theorem t2_102 (t : List UInt8) : pcallS Ph2 100000 8 [.int .i64 (.ofNat 2), .str [102], .str t] = some (.bool true) := by
  match t with
  | [] => exact d2_102
  | x :: y :: r => exact g2_102 x y r
  | [x] =>
    by_cases h1 : x.toNat = 102
    · obtain rfl : x = 102 := UInt8.toNat.inj h1
      exact s2_102
    · by_cases h2 : x.toNat = 115
      · obtain rfl : x = 115 := UInt8.toNat.inj h2
        exact ev2
      · exact letter (f := fun x => pcallS Ph2 100000 8 [.int .i64 (.ofNat 2), .str [102], .str [x]]) h2_102 x h1 h2
theorem d2_115 : pcallS Ph2 100000 8 [.int .i64 (.ofNat 2), .str [115], .str []] = some (.bool true) := by kernel_rfl
theorem g2_115 (x y : UInt8) (r : List UInt8) : pcallS Ph2 100000 8 [.int .i64 (.ofNat 2), .str [115], .str (x :: y :: r)] = some (.bool true) := by kernel_rfl
theorem h2_115 : allN 256 (fun n => but 102 115 n (isT ((fun x => pcallS Ph2 100000 8 [.int .i64 (.ofNat 2), .str [115], .str [x]]) (UInt8.ofNat n)))) = true := by kernel_rfl
theorem s2_115 : pcallS Ph2 100000 8 [.int .i64 (.ofNat 2), .str [115], .str [115]] = some (.bool true) := by kernel_rfl
theorem t2_115 (t : List UInt8) : pcallS Ph2 100000 8 [.int .i64 (.ofNat 2), .str [115], .str t] = some (.bool true) := by
  match t with
  | [] => exact d2_115
  | x :: y :: r => exact g2_115 x y r
  | [x] =>
    by_cases h1 : x.toNat = 102
    · obtain rfl : x = 102 := UInt8.toNat.inj h1
      exact ev3
    · by_cases h2 : x.toNat = 115
      · obtain rfl : x = 115 := UInt8.toNat.inj h2
        exact s2_115
      · exact letter (f := fun x => pcallS Ph2 100000 8 [.int .i64 (.ofNat 2), .str [115], .str [x]]) h2_115 x h1 h2
theorem law2 (f t : List UInt8) : pcallS Ph2 100000 8 [.int .i64 (.ofNat 2), .str f, .str t] = some (.bool true) := by
  match f with
  | [] => exact a2 t
  | x :: y :: r => exact b2 x y r t
  | [x] =>
    by_cases h1 : x.toNat = 102
    · obtain rfl : x = 102 := UInt8.toNat.inj h1
      exact t2_102 t
    · by_cases h2 : x.toNat = 115
      · obtain rfl : x = 115 := UInt8.toNat.inj h2
        exact t2_115 t
      · exact letter (f := fun x => pcallS Ph2 100000 8 [.int .i64 (.ofNat 2), .str [x], .str t]) (c2 t) x h1 h2
theorem a3 (t : List UInt8) : pcallS Ph2 100000 8 [.int .i64 (.ofNat 3), .str [], .str t] = some (.bool true) := by kernel_rfl
theorem b3 (x y : UInt8) (r t : List UInt8) : pcallS Ph2 100000 8 [.int .i64 (.ofNat 3), .str (x :: y :: r), .str t] = some (.bool true) := by kernel_rfl
theorem c3 (t : List UInt8) : allN 256 (fun n => but 102 115 n (isT ((fun x => pcallS Ph2 100000 8 [.int .i64 (.ofNat 3), .str [x], .str t]) (UInt8.ofNat n)))) = true := by kernel_rfl
theorem d3_102 : pcallS Ph2 100000 8 [.int .i64 (.ofNat 3), .str [102], .str []] = some (.bool true) := by kernel_rfl
theorem g3_102 (x y : UInt8) (r : List UInt8) : pcallS Ph2 100000 8 [.int .i64 (.ofNat 3), .str [102], .str (x :: y :: r)] = some (.bool true) := by kernel_rfl
theorem h3_102 : allN 256 (fun n => but 102 115 n (isT ((fun x => pcallS Ph2 100000 8 [.int .i64 (.ofNat 3), .str [102], .str [x]]) (UInt8.ofNat n)))) = true := by kernel_rfl
theorem s3_102 : pcallS Ph2 100000 8 [.int .i64 (.ofNat 3), .str [102], .str [102]] = some (.bool true) := by kernel_rfl
theorem t3_102 (t : List UInt8) : pcallS Ph2 100000 8 [.int .i64 (.ofNat 3), .str [102], .str t] = some (.bool true) := by
  match t with
  | [] => exact d3_102
  | x :: y :: r => exact g3_102 x y r
  | [x] =>
    by_cases h1 : x.toNat = 102
    · obtain rfl : x = 102 := UInt8.toNat.inj h1
      exact s3_102
    · by_cases h2 : x.toNat = 115
      · obtain rfl : x = 115 := UInt8.toNat.inj h2
        exact ev4
      · exact letter (f := fun x => pcallS Ph2 100000 8 [.int .i64 (.ofNat 3), .str [102], .str [x]]) h3_102 x h1 h2
theorem d3_115 : pcallS Ph2 100000 8 [.int .i64 (.ofNat 3), .str [115], .str []] = some (.bool true) := by kernel_rfl
theorem g3_115 (x y : UInt8) (r : List UInt8) : pcallS Ph2 100000 8 [.int .i64 (.ofNat 3), .str [115], .str (x :: y :: r)] = some (.bool true) := by kernel_rfl
theorem h3_115 : allN 256 (fun n => but 102 115 n (isT ((fun x => pcallS Ph2 100000 8 [.int .i64 (.ofNat 3), .str [115], .str [x]]) (UInt8.ofNat n)))) = true := by kernel_rfl
theorem s3_115 : pcallS Ph2 100000 8 [.int .i64 (.ofNat 3), .str [115], .str [115]] = some (.bool true) := by kernel_rfl
theorem t3_115 (t : List UInt8) : pcallS Ph2 100000 8 [.int .i64 (.ofNat 3), .str [115], .str t] = some (.bool true) := by
  match t with
  | [] => exact d3_115
  | x :: y :: r => exact g3_115 x y r
  | [x] =>
    by_cases h1 : x.toNat = 102
    · obtain rfl : x = 102 := UInt8.toNat.inj h1
      exact ev5
    · by_cases h2 : x.toNat = 115
      · obtain rfl : x = 115 := UInt8.toNat.inj h2
        exact s3_115
      · exact letter (f := fun x => pcallS Ph2 100000 8 [.int .i64 (.ofNat 3), .str [115], .str [x]]) h3_115 x h1 h2
theorem law3 (f t : List UInt8) : pcallS Ph2 100000 8 [.int .i64 (.ofNat 3), .str f, .str t] = some (.bool true) := by
  match f with
  | [] => exact a3 t
  | x :: y :: r => exact b3 x y r t
  | [x] =>
    by_cases h1 : x.toNat = 102
    · obtain rfl : x = 102 := UInt8.toNat.inj h1
      exact t3_102 t
    · by_cases h2 : x.toNat = 115
      · obtain rfl : x = 115 := UInt8.toNat.inj h2
        exact t3_115 t
      · exact letter (f := fun x => pcallS Ph2 100000 8 [.int .i64 (.ofNat 3), .str [x], .str t]) (c3 t) x h1 h2
theorem law (n : Int) (f t : List UInt8) : pcallS Ph2 100000 8 [.int .i64 n, .str f, .str t] = some (.bool true) := by
  match n with
  | .negSucc m => exact eN m f t
  | .ofNat 0 => exact e0 f t
  | .ofNat 1 => exact law1 f t
  | .ofNat 2 => exact law2 f t
  | .ofNat 3 => exact law3 f t
  | .ofNat (m + 4) => exact eP m f t
end Go.Vm.T
