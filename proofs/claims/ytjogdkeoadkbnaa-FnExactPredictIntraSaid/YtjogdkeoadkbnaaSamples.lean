/- Contracts of sampleValid and samplesIn, and how a slice of whole numbers is told. -/
import Derived.Test.YtjogdkeoadkbnaaBlock
namespace Go.Proofs.Ytjogdkeoadkbnaa
open Go.RowKit

/-- v is a slice of n whole numbers, b of the index. -/
def SlI (w : World) (v : Value) (n : Nat) (b : Nat → Int) : Prop :=
  (v = .slice none 0 0 ∧ n = 0) ∨ ∃ g off cap, v = .slice (some ⟨g, off, none⟩) n cap ∧ ∀ i, i < n → w.cell? ⟨g, off + i, none⟩ = some (.int .i64 (b i))
theorem SlI.of_blk {w : World} {g n : Nat} {t : TypeId} {b : Nat → Int} (h : Blk w g n t b) : SlI w (.slice (some ⟨g, 0, none⟩) n n) n b :=
  Or.inr ⟨g, 0, n, rfl, fun i hi => by rw [Nat.zero_add]; exact h.cell i hi⟩
/-- The first n numbers are samples. -/
def smpB (b : Nat → Int) (n : Nat) : Bool := (List.range n).all fun k => decide (0 ≤ b k ∧ b k ≤ 255)
theorem smpB_true {b : Nat → Int} {n : Nat} (h : ∀ k, k < n → 0 ≤ b k ∧ b k ≤ 255) : smpB b n = true := by
  simp only [smpB, List.all_eq_true, List.mem_range, decide_eq_true_eq]; exact h
theorem smpB_out {b : Nat → Int} {n : Nat} (h : smpB b n = true) : ∀ k, k < n → 0 ≤ b k ∧ b k ≤ 255 := by
  simpa only [smpB, List.all_eq_true, List.mem_range, decide_eq_true_eq] using h
theorem smpB_false {b : Nat → Int} {n : Nat} (k : Nat) (hk : k < n) (h : ¬ (0 ≤ b k ∧ b k ≤ 255)) : smpB b n = false := by
  cases e : smpB b n with
  | false => rfl
  | true => exact absurd (smpB_out e k hk) h

theorem sampleValid_yes (n : Int) (w : World) (h1 : 0 ≤ n) (h2 : n ≤ 255) :
    Calls Try.prog 40 #[.int .i64 n] w fun e w' => e = .returned (.bool true) ∧ w = w' := by
  go_enter Try.func40, Try.ntmps40
  go_wp2
  go_ret
  exact ⟨rfl, rfl⟩
theorem sampleValid_no (n : Int) (w : World) (h : n < 0 ∨ 255 < n) :
    Calls Try.prog 40 #[.int .i64 n] w fun e w' => e = .returned (.bool false) ∧ w = w' := by
  by_cases h1 : 0 ≤ n
  · have h2 : 255 < n := by omega
    have h3 : decide (n ≤ 255) = false := by simp; omega
    clear h
    go_enter Try.func40, Try.ntmps40
    go_wp2
    go_ret
    exact ⟨rfl, rfl⟩
  · clear h
    go_enter Try.func40, Try.ntmps40
    go_wp2
    go_ret
    exact ⟨rfl, rfl⟩

theorem samplesIn_any (v : Value) (n : Nat) (b : Nat → Int) (w : World) (h : SlI w v n b) (hn : n ≤ 1000000000000) :
    Calls Try.prog 46 #[v] w fun e w' => e = .returned (.bool (smpB b n)) ∧ w = w' := by
  rcases h with ⟨rfl, rfl⟩ | ⟨g, off, cap, rfl, hc⟩
  · have HT := Lib.hid (show smpB b 0 = true from rfl)
    go_enter Try.func46, Try.ntmps46
    go_wp2
    go_loop [7] (fun i => i = .int .i64 0) (fun _ => 0)
    case atStart => rfl
    case round =>
      obtain rfl := hrel
      go_wp2
      go_ret
      exact ⟨by rw [HT.out]; rfl, rfl⟩
  · have HC := Lib.hid hc; clear hc
    go_enter Try.func46, Try.ntmps46
    go_wp2
    go_loop [7] (fun i => ∃ k : Nat, k ≤ n ∧ i = .int .i64 k ∧ Hid (∀ j, j < k → 0 ≤ b j ∧ b j ≤ 255)) (fun i => n - (intOf i).toNat)
    case atStart => exact ⟨0, by omega, rfl, fun j hj => absurd hj (by omega)⟩
    case round =>
      obtain ⟨k, hk, rfl, HJ⟩ := hrel
      by_cases hlt : k < n
      · have hi := HC.out k hlt
        by_cases h1 : b k < 0 ∨ 255 < b k
        · have H1 := Lib.hid h1; clear h1
          go_wp2_with (go_at_call 40; refine (sampleValid_no _ _ H1.out).mono ?_; rintro e w' ⟨rfl, rfl⟩)
          go_ret
          exact ⟨by rw [smpB_false k hlt (by have := H1.out; omega)]; rfl, rfl⟩
        · have h1 : 0 ≤ b k := by omega
          have h2 : b k ≤ 255 := by omega
          go_wp2_with (go_at_call 40; refine (sampleValid_yes _ _ (by omega) (by omega)).mono ?_; rintro e w' ⟨rfl, rfl⟩)
          go_round
          case rel => exact ⟨k + 1, by omega, by go_num, fun j hj => by by_cases e : j = k; (subst e; omega); exact HJ.out j (by omega)⟩
          case measure => simp [intOf]; omega
      · go_wp2
        go_ret
        exact ⟨by rw [smpB_true (fun j hj => HJ.out j (by omega))]; rfl, rfl⟩
end Go.Proofs.Ytjogdkeoadkbnaa
