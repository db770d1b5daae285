/- Predictions of a block from its edges: the program's methods. -/
import Derived.Test.YtjogdkeoadkbnaaEdgesAt
namespace Go.Proofs.Ytjogdkeoadkbnaa
open Go.RowKit

theorem vertical_any (a b : Nat → Int) (c : Int) (u v : Bool) (x : Nat) (y : Int) (w : World) (hx : x < 4) :
    Calls Try.prog 64 #[.agg (edgV a b c u v), .int .i64 (x : Int), .int .i64 y] w fun e w' => e = .returned (.int .i64 (a x)) ∧ Below w.heap.size w w' := by
  have hE : EdgB (w.alloc (.cells (edgV a b c u v) 41)) w.heap.size 41 (edgV a b c u v) := EdgB.new' rfl
  have c1 := hE.cell x
  rw [edgV_getA _ _ _ _ _ _ hx] at c1
  have hx1 : (x : Int) < 4 := by omega
  have hx0 : (0 : Int) ≤ x := by omega
  go_enter Try.func64, Try.ntmps64
  go_wp2_with fail
  go_ret
  exact ⟨rfl, (Below.refl _ _).alloc (Nat.le_refl _) _⟩
theorem horizontal_any (a b : Nat → Int) (c : Int) (u v : Bool) (x : Int) (y : Nat) (w : World) (hy : y < 4) :
    Calls Try.prog 65 #[.agg (edgV a b c u v), .int .i64 x, .int .i64 (y : Int)] w fun e w' => e = .returned (.int .i64 (b y)) ∧ Below w.heap.size w w' := by
  have hE : EdgB (w.alloc (.cells (edgV a b c u v) 41)) w.heap.size 41 (edgV a b c u v) := EdgB.new' rfl
  have c1 := hE.cell (4 + y)
  rw [edgV_getL _ _ _ _ _ _ hy] at c1
  have hy1 : (y : Int) < 4 := by omega
  have hy0 : (0 : Int) ≤ y := by omega
  go_enter Try.func65, Try.ntmps65
  go_wp2_with fail
  go_ret
  exact ⟨rfl, (Below.refl _ _).alloc (Nat.le_refl _) _⟩
theorem plane_any (a b : Nat → Int) (c : Int) (u v : Bool) (x y : Nat) (w : World) (hx : x < 4) (hy : y < 4) (ha : 0 ≤ a x ∧ a x ≤ 255) (hb : 0 ≤ b y ∧ b y ≤ 255) (hc : 0 ≤ c ∧ c ≤ 255) :
    Calls Try.prog 67 #[.agg (edgV a b c u v), .int .i64 (x : Int), .int .i64 (y : Int)] w fun e w' => e = .returned (.int .i64 (clampI (a x + b y - c) 0 255)) ∧ Below w.heap.size w w' := by
  have hE : EdgB (w.alloc (.cells (edgV a b c u v) 41)) w.heap.size 41 (edgV a b c u v) := EdgB.new' rfl
  have c1 := hE.cell x
  rw [edgV_getA _ _ _ _ _ _ hx] at c1
  have c2 := hE.cell (4 + y)
  rw [edgV_getL _ _ _ _ _ _ hy] at c2
  have c3 : (w.alloc (.cells (edgV a b c u v) 41)).cell? ⟨w.heap.size, 8, none⟩ = some (.int .i64 c) := hE.cell 8
  have hbel : Below w.heap.size w (w.alloc (.cells (edgV a b c u v) 41)) := (Below.refl _ _).alloc (Nat.le_refl _) _
  generalize a x = p at *
  generalize b y = q at *
  have hx1 : (x : Int) < 4 := by omega
  have hx0 : (0 : Int) ≤ x := by omega
  have hy1 : (y : Int) < 4 := by omega
  have hy0 : (0 : Int) ≤ y := by omega
  have e1 : IntKind.i64.wrap (p + q) = p + q := IntWalk.i64_in _ (by omega)
  have e2 : IntKind.i64.wrap (p + q - c) = p + q - c := IntWalk.i64_in _ (by omega)
  have h255 : (0 : Int) ≤ 255 := by omega
  go_enter Try.func67, Try.ntmps67
  go_wp2_with fail
  go_quiet ((go_at_call 60; exact quietL (clamp_any _ _ _ _ (by assumption))))
  go_wp2_with fail
  go_ret
  exact ⟨rfl, below_drewN hbel _⟩
/-- The border of nine samples, from the lowest left one over the corner to the last one above. -/
def brd (a b : Nat → Int) (c : Int) (k : Nat) : Int := if k < 4 then b (3 - k) else if k = 4 then c else a (k - 5)
theorem l6Diagonal_any (a b : Nat → Int) (c : Int) (u v : Bool) (k : Nat) (w : World) (hk : k ≤ 8) :
    Calls Try.prog 62 #[.agg (edgV a b c u v), .int .i64 (k : Int)] w fun e w' => e = .returned (.int .i64 (brd a b c k)) ∧ Below w.heap.size w w' := by
  have hE : EdgB (w.alloc (.cells (edgV a b c u v) 41)) w.heap.size 41 (edgV a b c u v) := EdgB.new' rfl
  have hbel : Below w.heap.size w (w.alloc (.cells (edgV a b c u v) 41)) := (Below.refl _ _).alloc (Nat.le_refl _) _
  by_cases h4 : k < 4
  · obtain ⟨j, hj⟩ : ∃ j : Nat, 3 - k = j := ⟨_, rfl⟩
    have hb : brd a b c k = b j := by unfold brd; rw [if_pos h4, hj]
    rw [hb]
    have c1 := hE.cell (4 + j)
    rw [edgV_getL _ _ _ _ _ _ (by omega)] at c1
    have e1 : IntKind.i64.wrap (3 - (k : Int)) = (j : Int) := by rw [IntWalk.i64_in _ (by omega)]; omega
    have h4' : (k : Int) < 4 := by omega
    have hj1 : (j : Int) < 4 := by omega
    have hj0 : (0 : Int) ≤ j := by omega
    clear hj hb h4
    go_enter Try.func62, Try.ntmps62
    go_wp2_with fail
    go_ret
    exact ⟨rfl, hbel⟩
  · by_cases h5 : k = 4
    · have hb : brd a b c k = c := by unfold brd; rw [if_neg h4, if_pos h5]
      rw [hb]
      have c1 : (w.alloc (.cells (edgV a b c u v) 41)).cell? ⟨w.heap.size, 8, none⟩ = some (.int .i64 c) := hE.cell 8
      have h4' : ¬ (k : Int) < 4 := by omega
      have h5' : ((k : Int) == 4) = true := by simp; omega
      clear hb h4 h5
      go_enter Try.func62, Try.ntmps62
      go_wp2_with fail
      go_ret
      exact ⟨rfl, hbel⟩
    · obtain ⟨j, hj⟩ : ∃ j : Nat, k - 5 = j := ⟨_, rfl⟩
      have hb : brd a b c k = a j := by unfold brd; rw [if_neg h4, if_neg h5, hj]
      rw [hb]
      have c1 := hE.cell j
      rw [edgV_getA _ _ _ _ _ _ (by omega)] at c1
      have e1 : IntKind.i64.wrap ((k : Int) - 5) = (j : Int) := by rw [IntWalk.i64_in _ (by omega)]; omega
      have h4' : ¬ (k : Int) < 4 := by omega
      have h5' : ((k : Int) == 4) = false := by simp; omega
      have hj1 : (j : Int) < 4 := by omega
      have hj0 : (0 : Int) ≤ j := by omega
      clear hj hb h4 h5
      go_enter Try.func62, Try.ntmps62
      go_wp2_with fail
      go_ret
      exact ⟨rfl, hbel⟩
end Go.Proofs.Ytjogdkeoadkbnaa
