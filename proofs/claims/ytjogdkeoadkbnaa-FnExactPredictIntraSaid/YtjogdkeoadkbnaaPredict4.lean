/- The method diagonal of the program. -/
import Derived.Test.YtjogdkeoadkbnaaPredict3
namespace Go.Proofs.Ytjogdkeoadkbnaa
open Go.RowKit

theorem diagonal_any (a b : Nat → Int) (c : Int) (u v : Bool) (x y : Nat) (w : World) (hx : x < 4) (hy : y < 4) (ha : ∀ k, k < 9 → 0 ≤ brd a b c k ∧ brd a b c k ≤ 255) :
    Calls Try.prog 66 #[.agg (edgV a b c u v), .int .i64 (x : Int), .int .i64 (y : Int)] w fun e w' => e = .returned (.int .i64 ((brd a b c (3 + x - y) + 2 * brd a b c (4 + x - y) + brd a b c (5 + x - y) + 2) / 4)) ∧ Below w.heap.size w w' := by
  have a1 := ha (3 + x - y) (by omega)
  have a2 := ha (4 + x - y) (by omega)
  have a3 := ha (5 + x - y) (by omega)
  obtain ⟨p, hp⟩ : ∃ p, brd a b c (3 + x - y) = p := ⟨_, rfl⟩
  obtain ⟨q, hq⟩ : ∃ q, brd a b c (4 + x - y) = q := ⟨_, rfl⟩
  obtain ⟨r, hr⟩ : ∃ r, brd a b c (5 + x - y) = r := ⟨_, rfl⟩
  rw [hp] at a1
  rw [hq] at a2
  rw [hr] at a3
  rw [hp, hq, hr]
  have HP := Lib.hid hp; have HQ := Lib.hid hq; have HR := Lib.hid hr
  clear hp hq hr
  obtain ⟨w0, hw0⟩ : ∃ w0, w0 = w.alloc (.cells (edgV a b c u v) 41) := ⟨_, rfl⟩
  have hE : EdgB w0 w.heap.size 41 (edgV a b c u v) := by rw [hw0]; exact EdgB.new' rfl
  have hbel : Below w.heap.size w w0 := by rw [hw0]; exact (Below.refl _ _).alloc (Nat.le_refl _) _
  have HW := Lib.hid hw0; clear hw0
  have c0 : w0.cell? ⟨w.heap.size, 0, none⟩ = some (.int .i64 (a 0)) := hE.cell 0
  have c1 : w0.cell? ⟨w.heap.size, 1, none⟩ = some (.int .i64 (a 1)) := hE.cell 1
  have c2 : w0.cell? ⟨w.heap.size, 2, none⟩ = some (.int .i64 (a 2)) := hE.cell 2
  have c3 : w0.cell? ⟨w.heap.size, 3, none⟩ = some (.int .i64 (a 3)) := hE.cell 3
  have c4 : w0.cell? ⟨w.heap.size, 4, none⟩ = some (.int .i64 (b 0)) := hE.cell 4
  have c5 : w0.cell? ⟨w.heap.size, 5, none⟩ = some (.int .i64 (b 1)) := hE.cell 5
  have c6 : w0.cell? ⟨w.heap.size, 6, none⟩ = some (.int .i64 (b 2)) := hE.cell 6
  have c7 : w0.cell? ⟨w.heap.size, 7, none⟩ = some (.int .i64 (b 3)) := hE.cell 7
  have c8 : w0.cell? ⟨w.heap.size, 8, none⟩ = some (.int .i64 c) := hE.cell 8
  have hsz := hE.lt
  go_enter Try.func66, Try.ntmps66
  go_upto_region 1 with fail
  rw [← HW.out]; clear HW
  go_upto_region 2 with fail
  have hV : Blk (w0.alloc (.cells #[.int .i64 (b 3), .int .i64 (b 2), .int .i64 (b 1), .int .i64 (b 0), .int .i64 c, .int .i64 (a 0), .int .i64 (a 1), .int .i64 (a 2), .int .i64 (a 3)] 71)) w0.heap.size 9 71 (brd a b c) := heap_alloc_new w0 _
  have hbel2 := hbel.alloc hbel.size (.cells #[.int .i64 (b 3), .int .i64 (b 2), .int .i64 (b 1), .int .i64 (b 0), .int .i64 c, .int .i64 (a 0), .int .i64 (a 1), .int .i64 (a 2), .int .i64 (a 3)] 71)
  generalize w0.alloc (.cells #[.int .i64 (b 3), .int .i64 (b 2), .int .i64 (b 1), .int .i64 (b 0), .int .i64 c, .int .i64 (a 0), .int .i64 (a 1), .int .i64 (a 2), .int .i64 (a 3)] 71) = w1 at *
  have d1 := hV.cell (3 + x - y) (by omega)
  have d2 := hV.cell (4 + x - y) (by omega)
  have d3 := hV.cell (5 + x - y) (by omega)
  rw [HP.out] at d1
  rw [HQ.out] at d2
  rw [HR.out] at d3
  obtain ⟨k, hk⟩ : ∃ k, 3 + x - y = k := ⟨_, rfl⟩
  rw [hk] at d1
  rw [show 4 + x - y = k + 1 by omega] at d2
  rw [show 5 + x - y = k + 2 by omega] at d3
  have k6 : (k : Int) ≤ 6 := by omega
  have k0 : (0 : Int) ≤ k := by omega
  have e1 : IntKind.i64.wrap (4 + (x : Int)) = 4 + (x : Int) := IntWalk.i64_in _ (by omega)
  have e2 : IntKind.i64.wrap (4 + (x : Int) - (y : Int)) = ((k + 1 : Nat) : Int) := by rw [IntWalk.i64_in _ (by omega)]; omega
  clear hk c0 c1 c2 c3 c4 c5 c6 c7 c8 hE
  have f1 : IntKind.i64.wrap (((k + 1 : Nat) : Int) - 1) = (k : Int) := by rw [IntWalk.i64_in _ (by omega)]; omega
  have f2 : IntKind.i64.wrap (((k + 1 : Nat) : Int) + 1) = ((k + 2 : Nat) : Int) := by rw [IntWalk.i64_in _ (by omega)]; omega
  have g1 : IntKind.i64.wrap (2 * q) = 2 * q := IntWalk.i64_in _ (by omega)
  have g2 : IntKind.i64.wrap (p + 2 * q) = p + 2 * q := IntWalk.i64_in _ (by omega)
  have g3 : IntKind.i64.wrap (p + 2 * q + r) = p + 2 * q + r := IntWalk.i64_in _ (by omega)
  have g4 : IntKind.i64.wrap (p + 2 * q + r + 2) = p + 2 * q + r + 2 := IntWalk.i64_in _ (by omega)
  have g5 : IntKind.i64.wrap ((p + 2 * q + r + 2) / 4) = (p + 2 * q + r + 2) / 4 := IntWalk.i64_in _ (by omega)
  have m1 : ((k + 1 : Nat) : Int) ≤ 7 := by omega
  have m2 : ((k + 2 : Nat) : Int) ≤ 8 := by omega
  obtain ⟨k1, hk1⟩ : ∃ k1, k + 1 = k1 := ⟨_, rfl⟩
  obtain ⟨k2, hk2⟩ : ∃ k2, k + 2 = k2 := ⟨_, rfl⟩
  rw [hk1] at d2 e2 f1 f2 m1
  rw [hk2] at d3 f2 m2
  clear hk1 hk2
  go_wp2_with fail
  go_quiet (fail)
  go_wp2_with fail
  go_ret
  exact ⟨rfl, below_drewN hbel2 _⟩
end Go.Proofs.Ytjogdkeoadkbnaa
