/- Contracts of sampleValid and samplesIn, and how a slice of whole numbers is told. -/
import Derived.Test.YtogmlcmajecpgaaBlock
namespace Go.Proofs.Ytogmlcmajecpgaa
open Go.RowKit

/-- v is a slice of n whole numbers, b of the index. -/
def SlI (w : World) (v : Value) (n : Nat) (b : Nat → Int) : Prop :=
  (v = .slice none 0 0 ∧ n = 0) ∨ ∃ g off cap, v = .slice (some ⟨g, off, none⟩) n cap ∧ ∀ i, i < n → w.cell? ⟨g, off + i, none⟩ = some (.int .i64 (b i))
theorem SlI.of_blk {w : World} {g n : Nat} {t : TypeId} {b : Nat → Int} (h : Blk w g n t b) : SlI w (.slice (some ⟨g, 0, none⟩) n n) n b :=
  Or.inr ⟨g, 0, n, rfl, fun i hi => by rw [Nat.zero_add]; exact h.cell i hi⟩
/-- The first n numbers are samples. -/
def smpB (b : Nat → Int) (n : Nat) : Bool := (List.range n).all fun k => decide (0 ≤ b k ∧ b k ≤ 255)
theorem smpB_true {b : Nat → Int} {n : Nat} (h : ∀ k, k < n → 0 ≤ b k ∧ b k ≤ 255) : smpB b n = true := by
  simp only [smpB, List.all_eq_true, List.mem_range, decide_eq_true_eq]; exact h
theorem smpB_out {b : Nat → Int} {n : Nat} (h : smpB b n = true) : ∀ k, k < n → 0 ≤ b k ∧ b k ≤ 255 := by
  simpa only [smpB, List.all_eq_true, List.mem_range, decide_eq_true_eq] using h
theorem smpB_false {b : Nat → Int} {n : Nat} (k : Nat) (hk : k < n) (h : ¬ (0 ≤ b k ∧ b k ≤ 255)) : smpB b n = false := by
  cases e : smpB b n with
  | false => rfl
  | true => exact absurd (smpB_out e k hk) h

theorem sampleValid_yes (n : Int) (w : World) (h1 : 0 ≤ n) (h2 : n ≤ 255) :
    Calls Try.prog 47 #[.int .i64 n] w fun e w' => e = .returned (.bool true) ∧ w = w' := by
  go_enter Try.func47, Try.ntmps47
  go_wp2
  go_ret
  exact ⟨rfl, rfl⟩
theorem sampleValid_no (n : Int) (w : World) (h : n < 0 ∨ 255 < n) :
    Calls Try.prog 47 #[.int .i64 n] w fun e w' => e = .returned (.bool false) ∧ w = w' := by
  by_cases h1 : 0 ≤ n
  · have h2 : 255 < n := by omega
    have h3 : decide (n ≤ 255) = false := by simp; omega
    clear h
    go_enter Try.func47, Try.ntmps47
    go_wp2
    go_ret
    exact ⟨rfl, rfl⟩
  · clear h
    go_enter Try.func47, Try.ntmps47
    go_wp2
    go_ret
    exact ⟨rfl, rfl⟩

end Go.Proofs.Ytogmlcmajecpgaa
