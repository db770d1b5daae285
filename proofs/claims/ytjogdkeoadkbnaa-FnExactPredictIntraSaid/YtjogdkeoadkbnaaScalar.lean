/- Contracts of the small functions on whole numbers: what each returns; the world stays. Each holds for all arguments in the stated ranges. -/
import Derived.Test.YtjogdkeoadkbnaaRows
import Derived.WalkKit
import Derived.OpenShut
import Derived.WalkLawsBesides
import Derived.Lib.Hide
import Derived.Outline
import Derived.Deep.QuietTactic
import Derived.BigQuiet
namespace Go.Proofs.Ytjogdkeoadkbnaa
open Go.RowKit

theorem ret_int {k : IntKind} {a b : Int} (h : a = b) : Ending.returned (.int k a) = .returned (.int k b) := by rw [h]

/-- A callee that leaves the world as it is, met inside a region that draws its order. -/
theorem quietL {P : Program} {f : FuncId} {args : Array Value} {w : World} {n : Nat} {v : Value}
    (h : Calls P f args (w.drewN n) fun e w' => e = .returned v ∧ w.drewN n = w') : Calls P f args (w.drewN n) fun e w'' => e = .returned v ∧ ∃ m, w'' = w.drewN m :=
  h.mono fun _ _ p => ⟨p.1, n, p.2.symm⟩
theorem below_drewN {B : Nat} {a w : World} (h : Below B a w) (n : Nat) : Below B a (w.drewN n) := ⟨h.os, h.tape, h.output, h.size, h.block⟩

def sidx (v : Int) : Int := if v < -32767 ∨ 32767 < v then -1 else if 0 < v then 2 * v - 1 else -2 * v
def sval (n : Int) : Int := if n < 0 ∨ 65534 < n then 0 else if n % 2 = 1 then (n + 1) / 2 else -(n / 2)
def clampI (n lo hi : Int) : Int := if hi < (if n < lo then lo else n) then hi else (if n < lo then lo else n)
def absI (n : Int) : Int := if n < 0 then -n else n

theorem l1In_yes (n lo hi : Int) (w : World) (h1 : lo ≤ n) (h2 : n ≤ hi) :
    Calls Try.prog 38 #[.int .i64 n, .int .i64 lo, .int .i64 hi] w fun e w' => e = .returned (.bool true) ∧ w = w' := by
  go_enter Try.func38, Try.ntmps38
  go_wp2
  go_ret
  exact ⟨rfl, rfl⟩
theorem l1In_no (n lo hi : Int) (w : World) (h : n < lo ∨ hi < n) :
    Calls Try.prog 38 #[.int .i64 n, .int .i64 lo, .int .i64 hi] w fun e w' => e = .returned (.bool false) ∧ w = w' := by
  by_cases h1 : lo ≤ n
  · have h2 : hi < n := by omega
    have h3 : decide (n ≤ hi) = false := by simp; omega
    clear h
    go_enter Try.func38, Try.ntmps38
    go_wp2
    go_ret
    exact ⟨rfl, rfl⟩
  · clear h
    go_enter Try.func38, Try.ntmps38
    go_wp2
    go_ret
    exact ⟨rfl, rfl⟩

theorem iabs_any (n : Int) (w : World) (h1 : -9223372036854775807 ≤ n) (h2 : n ≤ 9223372036854775807) :
    Calls Try.prog 51 #[.int .i64 n] w fun e w' => e = .returned (.int .i64 (absI n)) ∧ w = w' := by
  by_cases h : n < 0
  · go_enter Try.func51, Try.ntmps51
    go_wp2
    go_ret
    exact ⟨ret_int (by unfold absI; split <;> omega), rfl⟩
  · go_enter Try.func51, Try.ntmps51
    go_wp2
    go_ret
    exact ⟨ret_int (by unfold absI; split <;> omega), rfl⟩

theorem l1Clip_any (n lo hi : Int) (w : World) (hlh : lo ≤ hi) :
    Calls Try.prog 59 #[.int .i64 n, .int .i64 lo, .int .i64 hi] w fun e w' => e = .returned (.int .i64 (clampI n lo hi)) ∧ w = w' := by
  go_enter Try.func59, Try.ntmps59
  go_wp2
  all_goals go_ret
  all_goals exact ⟨ret_int (by unfold clampI; omega), rfl⟩

theorem clamp_any (n lo hi : Int) (w : World) (hlh : lo ≤ hi) :
    Calls Try.prog 60 #[.int .i64 n, .int .i64 lo, .int .i64 hi] w fun e w' => e = .returned (.int .i64 (clampI n lo hi)) ∧ w = w' := by
  go_enter Try.func60, Try.ntmps60
  go_wp2
  all_goals go_ret
  all_goals exact ⟨ret_int (by unfold clampI; omega), rfl⟩

def roundI (n by' : Int) : Int := (2 * n + by') / (2 * by')
theorem rounded_any (n s : Int) (w : World) (h0 : 0 ≤ n) (h1 : n ≤ 1000000) (h2 : 1 ≤ s) (h3 : s ≤ 1000000) :
    Calls Try.prog 68 #[.int .i64 n, .int .i64 s] w fun e w' => e = .returned (.int .i64 (roundI n s)) ∧ w = w' := by
  go_enter Try.func68, Try.ntmps68
  go_wp2
  go_ret
  exact ⟨rfl, rfl⟩

end Go.Proofs.Ytjogdkeoadkbnaa
