/- How arguments that are slices of numbers, pictures, edges or lists of runs are opened. -/
import Derived.Test.YtinmfeflbaeodaaOpenRow
import Derived.Test.YtinmfeflbaeodaaSlices
import Derived.Lib.SmallJoins
import Derived.Laws.IdiomArrays
import Derived.Deep.SlicePairs
namespace Go.Proofs.Ytinmfeflbaeodaa
open Go.Joins Go.ChangeShapes Go.WideShapes Go.ChangeAt Go.RowKit Go.Deep

theorem IsRow.sr {k : IntKind} {w : World} {a : Option Addr} {len cap : Nat} {zs : List Int} (h : IsRow k w a len cap zs) : Sr k w.heap.size w (.slice a len cap) len (fun i => zs.getD i 0) ∧ len ≤ maxLen ∧ ∀ i, i < len → (Lit.int k (zs.getD i 0)).wf = true := by
  rcases h with ⟨rfl, rfl, rfl, rfl⟩ | ⟨x, rfl, hl, hm, hz, hc, hw⟩
  · exact ⟨⟨_, _, rfl, Nat.le_refl _, fun h => absurd h (by omega)⟩, by unfold maxLen; omega, fun i hi => absurd hi (by omega)⟩
  · refine ⟨⟨_, _, rfl, hl, fun h0 => ?_⟩, by omega, fun i hi => hw _ (by rw [List.getD_eq_getElem?_getD, List.getElem?_eq_getElem (by omega)]; exact List.getElem_mem _)⟩
    obtain ⟨g, off, spot⟩ := x
    have hc0 := hc 0 (by omega)
    have hspot : spot = none := by simpa [Addr.add] using World.cell?_spot hc0
    subst hspot
    refine ⟨g, off, rfl, ?_, fun i hi => ?_⟩
    · have := World.block_lt_of_cell? w _ hc0
      simpa [Addr.add] using this
    · have := hc i (by omega)
      rwa [show (⟨g, off, none⟩ : Addr).add i = ⟨g, off + i, none⟩ by unfold Addr.add; split <;> simp_all] at this

/-- The cells of edges: four above, four to the left, the corner, and what is available. -/
def edgV (a b : Nat → Int) (c : Int) (u v : Bool) : Array Value := #[.int .i64 (a 0), .int .i64 (a 1), .int .i64 (a 2), .int .i64 (a 3), .int .i64 (b 0), .int .i64 (b 1), .int .i64 (b 2), .int .i64 (b 3), .int .i64 c, .bool u, .bool v]
end Go.Proofs.Ytinmfeflbaeodaa
