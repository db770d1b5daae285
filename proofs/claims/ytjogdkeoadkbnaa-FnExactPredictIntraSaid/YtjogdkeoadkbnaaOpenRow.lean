/- How an argument that is a slice of whole numbers of one kind is opened. -/
import Derived.Test.YtjogdkeoadkbnaaReader
import Derived.ProofKit
import Derived.OpenShut
namespace Go.Proofs.Ytjogdkeoadkbnaa
open Go.ChangeShapes Go.WideShapes Go.ChangeAt Go.RowKit

/-- What is known of a slice of whole numbers that came in: it is nil, or it leads to a row of cap cells, the numbers zs. -/
def IsRow (k : IntKind) (w : World) (a : Option Addr) (len cap : Nat) (zs : List Int) : Prop :=
  (a = none ∧ len = 0 ∧ cap = 0 ∧ zs = []) ∨
  ∃ x, a = some x ∧ len ≤ cap ∧ cap ≤ maxLen ∧ zs.length = cap ∧ (∀ i, i < zs.length → w.cell? (x.add i) = some (.int k (zs.getD i 0))) ∧ ∀ n ∈ zs, (Lit.int k n).wf = true
theorem open_row {H : Type} {enc : TypeId × Value → H} {P : Program} {w : World} {r : Reach} {b0 : Nat} {t e : TypeId} {v : Value} {d : DataW H} {p : List MemPlace} (k : IntKind)
    (ht : P.underlying t = some (.slice e)) (he : P.underlying e = some (.int k)) (hce : P.cellsOf e = 1)
    (hv : Value.okWide P w r b0 t v) (h : DataW.Trod enc P w 0 (fun _ => true) true t v d p) :
    ∃ a len cap zs, v = .slice a len cap ∧ IsRow k w a len cap zs := by
  obtain ⟨a0, len0, cap0, rfl⟩ := okWide_slice ht hv
  obtain ⟨fuel, hf⟩ := h
  rcases open_ints ht he hce hf with ⟨hcs, _⟩ | ⟨x, l, c, zs, hcs, _, hl, hm, hz, _, hcell, hwz⟩
  · simp [Value.cells] at hcs
    obtain ⟨rfl, rfl, rfl⟩ := hcs
    exact ⟨_, _, _, [], rfl, .inl ⟨rfl, rfl, rfl, rfl⟩⟩
  · simp [Value.cells] at hcs
    obtain ⟨rfl, rfl, rfl⟩ := hcs
    exact ⟨_, _, _, zs, rfl, .inr ⟨_, rfl, hl, hm, by simpa using hz, hcell, hwz⟩⟩
/-- A slice of bytes that came in, as the reader's functions want it; its length. -/
theorem IsRow.bytes {w : World} {a : Option Addr} {len cap : Nat} {zs : List Int} (h : IsRow .u8 w a len cap zs) : SlB w.heap.size w (.slice a len cap) len (fun i => zs.getD i 0) ∧ len ≤ maxLen := by
  rcases h with ⟨rfl, rfl, rfl, rfl⟩ | ⟨x, rfl, hl, hm, hz, hc, hw⟩
  · exact ⟨Or.inl ⟨⟨_, _, rfl⟩, rfl⟩, by unfold maxLen; omega⟩
  · refine ⟨?_, by omega⟩
    obtain ⟨g, off, spot⟩ := x
    by_cases h0 : cap = 0
    · obtain rfl : len = 0 := by omega
      exact Or.inl ⟨⟨_, _, rfl⟩, rfl⟩
    · have hc0 := hc 0 (by omega)
      have hspot : spot = none := by simpa [Addr.add] using World.cell?_spot hc0
      subst hspot
      refine Or.inr ⟨g, off, cap, rfl, fun _ => ?_, hl, fun i hi => ⟨?_, ?_⟩⟩
      · have := World.block_lt_of_cell? w _ hc0
        simpa [Addr.add] using this
      · have hm : zs.getD i 0 ∈ zs := by rw [List.getD_eq_getElem?_getD, List.getElem?_eq_getElem (by omega)]; exact List.getElem_mem _
        exact bounds_u8 (hw _ hm)
      · have := hc i (by omega)
        rwa [show (⟨g, off, none⟩ : Addr).add i = ⟨g, off + i, none⟩ by unfold Addr.add; split <;> simp_all] at this
end Go.Proofs.Ytjogdkeoadkbnaa
