/- How an argument that is a list of runs is opened. -/
import Derived.Test.YtogmlcmajecpgaaOpenRow
import Derived.Test.YtogmlcmajecpgaaRuns
import Derived.Deep.SlicePairs
namespace Go.Proofs.Ytogmlcmajecpgaa
open Go.ChangeShapes Go.WideShapes Go.ChangeAt Go.RowKit Go.Deep

/-- What is known of a list of runs that came in. -/
def IsRunL (w : World) (a : Option Addr) (len cap : Nat) (L : List (Int × Int)) : Prop := SrR w.heap.size w (.slice a len cap) L ∧ L.length = len ∧ len ≤ maxLen
theorem zr_map {z l : Nat → Int} {n i : Nat} (h : i < n) : zr ((List.range n).map fun i => (z i, l i)) i = z i := by rw [zr_at (by simpa using h)]; simp
theorem lv_map {z l : Nat → Int} {n i : Nat} (h : i < n) : lv ((List.range n).map fun i => (z i, l i)) i = l i := by rw [lv_at (by simpa using h)]; simp
theorem open_runs {H : Type} {enc : TypeId × Value → H} {w : World} {r : Reach} {b0 : Nat} {v : Value} {d : DataW H} {p : List MemPlace}
    (hv : Value.okWide Try.prog w r b0 35 v) (h : DataW.Trod enc Try.prog w 0 (fun _ => true) true 35 v d p) :
    ∃ a len cap L, v = .slice a len cap ∧ IsRunL w a len cap L := by
  obtain ⟨a0, len0, cap0, rfl⟩ := okWide_slice Try.underlying35 hv
  obtain ⟨fuel, hf⟩ := h
  rcases open_slice_pairs Try.underlying35 Try.underlying56 (by kernel_rfl) rfl rfl (by kernel_rfl) (by kernel_rfl) hf with ⟨hcs, _⟩ | ⟨x, l, c, m, n, V0, V1, D0, D1, P0, P1, hcs, _, hl, hm, hmm, _, hcell⟩
  · simp [Value.cells] at hcs
    obtain ⟨rfl, rfl, rfl⟩ := hcs
    exact ⟨_, _, _, [], rfl, ⟨_, _, rfl, Nat.le_refl _, fun h => absurd h (by simp)⟩, rfl, by unfold maxLen; omega⟩
  · simp [Value.cells] at hcs
    obtain ⟨rfl, rfl, rfl⟩ := hcs
    simp at hmm
    subst hmm
    refine ⟨_, _, _, (List.range len0).map fun i => (intOf (V0 i), intOf (V1 i)), rfl, ⟨some x, m, by simp, by simpa using hl, fun h0 => ?_⟩, by simp, by omega⟩
    have hlen : ((List.range len0).map fun i => (intOf (V0 i), intOf (V1 i))).length = len0 := by simp
    rw [hlen] at h0
    have hval : ∀ i, i < m → w.cell? (x.add (i * 2)) = some (.int .i64 (intOf (V0 i))) ∧ w.cell? (x.add (i * 2 + 1)) = some (.int .i64 (intOf (V1 i))) := by
      intro i hi
      obtain ⟨h0, h1, t0, t1⟩ := hcell i hi
      obtain ⟨z0, e0, _, w0⟩ := DataW.trod_int Try.underlying3 t0
      obtain ⟨z1, e1, _, w1⟩ := DataW.trod_int Try.underlying3 t1
      simp at e0 e1
      rw [e0] at h0
      rw [e1] at h1
      rw [h0, h1, e0, e1]
      exact ⟨rfl, rfl⟩
    obtain ⟨g, off, spot⟩ := x
    have hc0 := (hval 0 (by omega)).1
    have hspot : spot = none := by simpa [Addr.add] using World.cell?_spot hc0
    subst hspot
    refine ⟨g, off, rfl, ?_, fun i hi => ?_⟩
    · have := World.block_lt_of_cell? w _ hc0
      simpa [Addr.add] using this
    · rw [hlen] at hi
      rw [zr_map hi, lv_map hi]
      have := hval i (by omega)
      rw [Addr.add_mid, Addr.add_mid, ← Nat.add_assoc] at this
      exact this
end Go.Proofs.Ytogmlcmajecpgaa
