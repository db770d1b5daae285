/- The program's butterflies on four numbers of a block in memory. -/
import Derived.Test.YtammofbncdmccaaTransform
import Derived.Test.YtammofbncdmccaaMem
import Derived.BigRegion
import Derived.RegionTactic
namespace Go.Proofs.Ytammofbncdmccaa
open Go.RowKit

theorem Only.blk {g g' n : Nat} {t : TypeId} {b : Nat → Int} {w w' : World} (h : Only g w w') (hb : Blk w g' n t b) (hg : g' ≠ g) : Blk w' g' n t b := (h.block g' hg).trans hb

/-- What butterflies makes of a block. -/
def bfly (b : Nat → Int) (at' step : Nat) (i : Nat) : Int :=
  if i = at' then b at' + b (at' + step) + b (at' + 2 * step) + b (at' + 3 * step)
  else if i = at' + step then b at' + b (at' + step) - b (at' + 2 * step) - b (at' + 3 * step)
  else if i = at' + 2 * step then b at' - b (at' + step) - b (at' + 2 * step) + b (at' + 3 * step)
  else if i = at' + 3 * step then b at' - b (at' + step) + b (at' + 2 * step) - b (at' + 3 * step)
  else b i

set_option maxRecDepth 100000 in
set_option maxHeartbeats 1000000 in
theorem butterflies_any (b : Nat → Int) (g p s : Nat) (w : World) (hB : Blk w g 16 23 b) (hp : p + 3 * s < 16) (hs : 1 ≤ s) (hb : ∀ k, k < 16 → -1000000000 ≤ b k ∧ b k ≤ 1000000000) :
    Calls Try.prog 39 #[.pointer (some ⟨g, 0, none⟩), .int .i64 p, .int .i64 s] w fun e w' => e = .returned (.tuple #[]) ∧ Blk w' g 16 23 (bfly b p s) ∧ Only g w w' := by
  have c0 := hB.cell p (by omega)
  have c1 := hB.cell (p + s) (by omega)
  have c2 := hB.cell (p + 2 * s) (by omega)
  have c3 := hB.cell (p + 3 * s) (by omega)
  have f0 := hB.frozen p
  have f1 := hB.frozen (p + s)
  have f2 := hB.frozen (p + 2 * s)
  have f3 := hB.frozen (p + 3 * s)
  have b0 := hb p (by omega)
  have b1 := hb (p + s) (by omega)
  have b2 := hb (p + 2 * s) (by omega)
  have b3 := hb (p + 3 * s) (by omega)
  have HB := Lib.hid hB
  have HH := Lib.hid hb
  clear hB hb
  have i0 : (p : Int) < 16 := by omega
  have i1 : (p : Int) + s < 16 := by omega
  have i2 : (p : Int) + 2 * s < 16 := by omega
  have i3 : (p : Int) + 3 * s < 16 := by omega
  have j0 : (0 : Int) ≤ p := by omega
  have j1 : (0 : Int) ≤ (p : Int) + s := by omega
  have j2 : (0 : Int) ≤ (p : Int) + 2 * s := by omega
  have j3 : (0 : Int) ≤ (p : Int) + 3 * s := by omega
  generalize h0 : b p = x0 at *
  have H0 := Lib.hid h0; clear h0
  generalize h1 : b (p + s) = x1 at *
  have H1 := Lib.hid h1; clear h1
  generalize h2 : b (p + 2 * s) = x2 at *
  have H2 := Lib.hid h2; clear h2
  generalize h3 : b (p + 3 * s) = x3 at *
  have H3 := Lib.hid h3; clear h3
  have e1 : IntKind.i64.wrap ((p : Int) + s) = (p : Int) + s := IntWalk.i64_in _ (by omega)
  have e2 : IntKind.i64.wrap (2 * (s : Int)) = 2 * (s : Int) := IntWalk.i64_in _ (by omega)
  have e3 : IntKind.i64.wrap (3 * (s : Int)) = 3 * (s : Int) := IntWalk.i64_in _ (by omega)
  have e4 : IntKind.i64.wrap ((p : Int) + 2 * s) = (p : Int) + 2 * s := IntWalk.i64_in _ (by omega)
  have e5 : IntKind.i64.wrap ((p : Int) + 3 * s) = (p : Int) + 3 * s := IntWalk.i64_in _ (by omega)
  have t1 : ((p : Int) + s).toNat = p + s := by omega
  have t2 : ((p : Int) + 2 * s).toNat = p + 2 * s := by omega
  have t3 : ((p : Int) + 3 * s).toNat = p + 3 * s := by omega
  go_enter Try.func39, Try.ntmps39
  go_wp2
  go_quiet (fail)
  go_wp2
  go_region
  go_wp2
  go_region
  go_end0
  refine ⟨rfl, ?_, ?_⟩
  · refine (((((HB.out.drewN _).set _ _).set _ _).set _ _).set _ _).congr (fun k hk => ?_)
    unfold bfly
    rw [H0.out, H1.out, H2.out, H3.out]
    repeat' split
    all_goals first | rfl | omega
  · exact ((((((Only.refl g w).drewN _).setCell _ _).setCell _ _).setCell _ _).setCell _ _).drew
end Go.Proofs.Ytammofbncdmccaa
