/- The scan order. -/
import Derived.Test.YtinmfeflbaeodaaAppend
import Derived.Test.YtinmfeflbaeodaaBlock
namespace Go.Proofs.Ytinmfeflbaeodaa
open Go.RowKit

theorem new_cell (w : World) (v : Value) (t : TypeId) : (w.alloc (.cells #[v] t)).cell? ⟨w.heap.size, 0, none⟩ = some v := by rw [cell_of_row _ _ 0 _ _ _ (heap_alloc_new w _)]; rfl
/-- The scan order. -/
def scN (i : Nat) : Nat := [0, 1, 4, 8, 5, 2, 3, 6, 9, 12, 13, 10, 7, 11, 14, 15].getD i 0
def scF (i : Nat) : Int := (scN i : Int)
def inI (s k : Nat) : Bool := decide ((if s % 2 = 0 then s - k else k) < 4 ∧ s - (if s % 2 = 0 then s - k else k) < 4)
def cntI (s k : Nat) : Nat := ((List.range s).map (fun t => (List.range (t + 1)).countP (inI t))).sum + (List.range k).countP (inI s)
theorem i_ev : ∀ s, s < 7 → ∀ k, k < s + 1 → (s % 2 = 0 ∧ s - k < 4 ∧ k < 4) → cntI s (k + 1) = cntI s k + 1 ∧ cntI s k < 16 ∧ scN (cntI s k) = 4 * (s - k) + k := by decide +kernel
theorem i_od : ∀ s, s < 7 → ∀ k, k < s + 1 → (s % 2 = 1 ∧ k < 4 ∧ s - k < 4) → cntI s (k + 1) = cntI s k + 1 ∧ cntI s k < 16 ∧ scN (cntI s k) = 4 * k + (s - k) := by decide +kernel
theorem i_no : ∀ s, s < 7 → ∀ k, k < s + 1 → (4 ≤ s - k ∨ 4 ≤ k) → cntI s (k + 1) = cntI s k := by decide +kernel
theorem i_row : ∀ s, s < 7 → cntI s (s + 1) = cntI (s + 1) 0 := by decide +kernel
theorem i_le : ∀ s, s < 8 → ∀ k, k < s + 2 → cntI s k ≤ 16 := by decide +kernel
theorem i_end : cntI 7 0 = 16 := by decide +kernel
theorem i_beg : cntI 0 0 = 0 := by decide +kernel
def inS (s k : Nat) : Bool := decide ((if s % 2 = 0 then 3 - k else k) ≤ s ∧ s ≤ 3 + (if s % 2 = 0 then 3 - k else k))
def cntS (s k : Nat) : Nat := ((List.range s).map (fun t => (List.range 4).countP (inS t))).sum + (List.range k).countP (inS s)
theorem s_ev : ∀ s, s < 7 → ∀ k, k < 4 → (s % 2 = 0 ∧ 3 ≤ s + k ∧ s + k ≤ 6) → cntS s (k + 1) = cntS s k + 1 ∧ cntS s k < 16 ∧ (scN (cntS s k) : Int) = 4 * (3 - (k : Int)) + s - (3 - k) := by decide +kernel
theorem s_evn : ∀ s, s < 7 → ∀ k, k < 4 → s % 2 = 0 → (s + k < 3 ∨ 6 < s + k) → cntS s (k + 1) = cntS s k := by decide +kernel
theorem s_od : ∀ s, s < 7 → ∀ k, k < 4 → (s % 2 = 1 ∧ k ≤ s ∧ s ≤ k + 3) → cntS s (k + 1) = cntS s k + 1 ∧ cntS s k < 16 ∧ (scN (cntS s k) : Int) = 4 * (k : Int) + s - k := by decide +kernel
theorem s_odn : ∀ s, s < 7 → ∀ k, k < 4 → s % 2 = 1 → (s < k ∨ k + 3 < s) → cntS s (k + 1) = cntS s k := by decide +kernel
theorem s_row : ∀ s, s < 7 → cntS s 4 = cntS (s + 1) 0 := by decide +kernel
theorem s_le : ∀ s, s < 8 → ∀ k, k < 5 → cntS s k ≤ 16 := by decide +kernel
theorem s_end : cntS 7 0 = 16 := by decide +kernel
theorem s_beg : cntS 0 0 = 0 := by decide +kernel
/-- What has been written of the order. -/
def scTo (n i : Nat) : Int := if i < n then scF i else 0
theorem scTo_step (n : Nat) (y : Int) (hy : y = scF n) (i : Nat) : (if i = n then y else scTo n i) = scTo (n + 1) i := by
  unfold scTo
  by_cases e : i = n
  · subst e; rw [if_pos rfl, if_pos (by omega), hy]
  · rw [if_neg e]
    by_cases h : i < n
    · rw [if_pos h, if_pos (by omega)]
    · rw [if_neg h, if_neg (by omega)]
theorem sameInts_yes (u v : Value) (n : Nat) (b c : Nat → Int) (w : World) (hu : Sr .i64 w.heap.size w u n b) (hv : Sr .i64 w.heap.size w v n c) (h : ∀ i, i < n → b i = c i) (hn : n ≤ 1000000000000) :
    Calls Try.prog 31 #[u, v] w fun e w' => e = .returned (.bool true) ∧ Below w.heap.size w w' := by
  have hv := hv.congr (c := b) (fun i hi => (h i hi).symm)
  clear h
  obtain ⟨a, cap, rfl, _, hc⟩ := hu
  obtain ⟨a', cap', rfl, _, hc'⟩ := hv
  have HC := Lib.hid hc; have HC' := Lib.hid hc'; clear hc hc'
  go_enter Try.func31, Try.ntmps31
  go_wp2
  go_loopw [5] (fun i wr => ∃ k m : Nat, k ≤ n ∧ i = .int .i64 k ∧ wr = w.drewN m) (fun i _ => n - (intOf i).toNat)
  case atStart => exact ⟨0, 0, by omega, rfl, rfl⟩
  case round =>
    obtain ⟨k, m, hk, rfl, rfl⟩ := hrel
    by_cases hlt : k < n
    · obtain ⟨g, off, rfl, hg, hcell⟩ := HC.out (by omega)
      obtain ⟨g', off', rfl, hg', hcell'⟩ := HC'.out (by omega)
      have c1 := hcell k hlt
      have c2 := hcell' k hlt
      have hk1 : (k : Int) < n := by omega
      have hk0 : (0 : Int) ≤ k := by omega
      clear hcell hcell' HC HC'
      go_wp2_with fail
      go_quiet (fail)
      go_wp2_with fail
      go_roundw
      case rel => exact ⟨k + 1, _, by omega, by go_num, rfl⟩
      case measure => simp [intOf]; omega
    · go_wp2_with fail
      go_ret
      exact ⟨rfl, below_drewN (Below.refl _ _) m⟩
end Go.Proofs.Ytinmfeflbaeodaa
