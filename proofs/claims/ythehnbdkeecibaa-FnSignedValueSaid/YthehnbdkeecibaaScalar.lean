/- Contracts of the small functions on whole numbers: what each returns; the world stays. Each holds for all arguments in the stated ranges. -/
import Derived.Test.YthehnbdkeecibaaRows
import Derived.WalkKit
import Derived.OpenShut
import Derived.WalkLawsBesides
import Derived.Lib.Hide
import Derived.Outline
import Derived.Deep.QuietTactic
import Derived.BigQuiet
namespace Go.Proofs.Ythehnbdkeecibaa
open Go.RowKit

theorem ret_int {k : IntKind} {a b : Int} (h : a = b) : Ending.returned (.int k a) = .returned (.int k b) := by rw [h]

/-- A callee that leaves the world as it is, met inside a region that draws its order. -/
theorem quietL {P : Program} {f : FuncId} {args : Array Value} {w : World} {n : Nat} {v : Value}
    (h : Calls P f args (w.drewN n) fun e w' => e = .returned v ∧ w.drewN n = w') : Calls P f args (w.drewN n) fun e w'' => e = .returned v ∧ ∃ m, w'' = w.drewN m :=
  h.mono fun _ _ p => ⟨p.1, n, p.2.symm⟩
theorem below_drewN {B : Nat} {a w : World} (h : Below B a w) (n : Nat) : Below B a (w.drewN n) := ⟨h.os, h.tape, h.output, h.size, h.block⟩

def sidx (v : Int) : Int := if v < -32767 ∨ 32767 < v then -1 else if 0 < v then 2 * v - 1 else -2 * v
def sval (n : Int) : Int := if n < 0 ∨ 65534 < n then 0 else if n % 2 = 1 then (n + 1) / 2 else -(n / 2)
def clampI (n lo hi : Int) : Int := if hi < (if n < lo then lo else n) then hi else (if n < lo then lo else n)
def absI (n : Int) : Int := if n < 0 then -n else n

theorem l1In_yes (n lo hi : Int) (w : World) (h1 : lo ≤ n) (h2 : n ≤ hi) :
    Calls Try.prog 16 #[.int .i64 n, .int .i64 lo, .int .i64 hi] w fun e w' => e = .returned (.bool true) ∧ w = w' := by
  go_enter Try.func16, Try.ntmps16
  go_wp2
  go_ret
  exact ⟨rfl, rfl⟩
theorem l1In_no (n lo hi : Int) (w : World) (h : n < lo ∨ hi < n) :
    Calls Try.prog 16 #[.int .i64 n, .int .i64 lo, .int .i64 hi] w fun e w' => e = .returned (.bool false) ∧ w = w' := by
  by_cases h1 : lo ≤ n
  · have h2 : hi < n := by omega
    have h3 : decide (n ≤ hi) = false := by simp; omega
    clear h
    go_enter Try.func16, Try.ntmps16
    go_wp2
    go_ret
    exact ⟨rfl, rfl⟩
  · clear h
    go_enter Try.func16, Try.ntmps16
    go_wp2
    go_ret
    exact ⟨rfl, rfl⟩

theorem labs_any (n : Int) (w : World) (h1 : -9223372036854775807 ≤ n) (h2 : n ≤ 9223372036854775807) :
    Calls Try.prog 13 #[.int .i64 n] w fun e w' => e = .returned (.int .i64 (absI n)) ∧ w = w' := by
  by_cases h : n < 0
  · go_enter Try.func13, Try.ntmps13
    go_wp2
    go_ret
    exact ⟨ret_int (by unfold absI; split <;> omega), rfl⟩
  · go_enter Try.func13, Try.ntmps13
    go_wp2
    go_ret
    exact ⟨ret_int (by unfold absI; split <;> omega), rfl⟩

theorem sSignedIndex_any (v : Int) (w : World) :
    Calls Try.prog 8 #[.int .i64 v] w fun e w' => e = .returned (.int .i64 (sidx v)) ∧ w = w' := by
  by_cases h : v < -32767 ∨ 32767 < v
  · have H := Lib.hid h; clear h
    go_enter Try.func8, Try.ntmps8
    go_wp2_with (go_at_call 16; refine (l1In_no _ _ _ _ (by have := H.out; omega)).mono ?_; rintro e w' ⟨rfl, rfl⟩)
    go_ret
    exact ⟨ret_int (by unfold sidx; rw [if_pos H.out]), rfl⟩
  · have h1 : -32767 ≤ v := by omega
    have h2 : v ≤ 32767 := by omega
    clear h
    by_cases h3 : 0 < v
    all_goals
      go_enter Try.func8, Try.ntmps8
      go_wp2_with (go_at_call 16; refine (l1In_yes _ _ _ _ (by omega) (by omega)).mono ?_; rintro e w' ⟨rfl, rfl⟩)
      go_ret
      exact ⟨ret_int (by unfold sidx; repeat (split); all_goals omega), rfl⟩

theorem iSignedIndex_any (v : Int) (w : World) :
    Calls Try.prog 9 #[.int .i64 v] w fun e w' => e = .returned (.int .i64 (sidx v)) ∧ w = w' := by
  by_cases h1 : v < -32767
  · go_enter Try.func9, Try.ntmps9
    go_wp2
    go_ret
    exact ⟨ret_int (by unfold sidx; rw [if_pos (by omega)]), rfl⟩
  · by_cases h2 : 32767 < v
    · go_enter Try.func9, Try.ntmps9
      go_wp2
      go_ret
      exact ⟨ret_int (by unfold sidx; rw [if_pos (by omega)]), rfl⟩
    · by_cases h3 : 0 < v
      all_goals
        go_enter Try.func9, Try.ntmps9
        go_wp2
        go_ret
        exact ⟨ret_int (by unfold sidx; repeat (split); all_goals omega), rfl⟩

theorem sval_odd (v : Int) (h1 : 0 ≤ v) (h2 : v ≤ 65534) (h3 : v % 2 = 1) : (v + 1) / 2 = sval v := by
  unfold sval; rw [if_neg (by omega), if_pos h3]
theorem sval_even (v : Int) (h1 : 0 ≤ v) (h2 : v ≤ 65534) (h3 : ¬ v % 2 = 1) : wrap64 (-(v.tdiv 2)) = sval v := by
  unfold sval; rw [if_neg (by omega), if_neg h3, Int.tdiv_eq_ediv_of_nonneg h1, IntWalk.wrap64_in _ (by omega)]
theorem sSignedValue_any (v : Int) (w : World) :
    Calls Try.prog 10 #[.int .i64 v] w fun e w' => e = .returned (.int .i64 (sval v)) ∧ w = w' := by
  by_cases h : v < 0 ∨ 65534 < v
  · have H := Lib.hid h; clear h
    go_enter Try.func10, Try.ntmps10
    go_wp2_with (go_at_call 16; refine (l1In_no _ _ _ _ (by have := H.out; omega)).mono ?_; rintro e w' ⟨rfl, rfl⟩)
    go_ret
    exact ⟨ret_int (by unfold sval; rw [if_pos H.out]), rfl⟩
  · have h1 : 0 ≤ v := by omega
    have h2 : v ≤ 65534 := by omega
    clear h
    by_cases h3 : v % 2 = 1
    all_goals
      go_enter Try.func10, Try.ntmps10
      go_wp2_with (go_at_call 16; refine (l1In_yes _ _ _ _ (by omega) (by omega)).mono ?_; rintro e w' ⟨rfl, rfl⟩)
      go_ret
      exact ⟨ret_int (by first | exact sval_odd v h1 h2 h3 | exact sval_even v h1 h2 h3), rfl⟩

theorem iSignedValue_any (v : Int) (w : World) :
    Calls Try.prog 11 #[.int .i64 v] w fun e w' => e = .returned (.int .i64 (sval v)) ∧ w = w' := by
  by_cases h1 : v < 0
  · go_enter Try.func11, Try.ntmps11
    go_wp2
    go_ret
    exact ⟨ret_int (by unfold sval; rw [if_pos (by omega)]), rfl⟩
  · have h1 : 0 ≤ v := by omega
    by_cases h2 : 65534 < v
    · go_enter Try.func11, Try.ntmps11
      go_wp2
      go_ret
      exact ⟨ret_int (by unfold sval; rw [if_pos (by omega)]), rfl⟩
    · have h2 : v ≤ 65534 := by omega
      by_cases h3 : v % 2 = 1
      all_goals
        go_enter Try.func11, Try.ntmps11
        go_wp2
        go_ret
        exact ⟨ret_int (by first | exact sval_odd v h1 h2 h3 | exact sval_even v h1 h2 h3), rfl⟩

end Go.Proofs.Ythehnbdkeecibaa
