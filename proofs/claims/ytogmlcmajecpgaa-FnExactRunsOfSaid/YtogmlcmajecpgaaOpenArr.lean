/- How an argument that is an array of sixteen numbers is opened: its value is written out as a function of the index. -/
import Derived.Test.YtogmlcmajecpgaaBlock
import Derived.ProofKit
import Derived.OpenShut
namespace Go.Proofs.Ytogmlcmajecpgaa
open Go.ChangeShapes Go.WideShapes Go.ChangeAt Go.RowKit

theorem okWide_arr {P : Program} {w : World} {r : Reach} {b0 n : Nat} {t e : TypeId} {v : Value} (ht : P.underlying t = some (.array n e)) (hv : Value.okWide P w r b0 t v) : ∃ cs, v = .agg cs := by
  simp only [Value.okWide, ht] at hv
  obtain ⟨cs, h1, _⟩ := hv
  exact ⟨cs, h1⟩
theorem open_arr16 {H : Type} {enc : TypeId × Value → H} {P : Program} {w : World} {base : Nat} {spare : Nat → Bool} {held : Bool} {r : Reach} {b0 : Nat} {t e : TypeId} {v : Value} {d : DataW H} {p : List MemPlace}
    (ht : P.underlying t = some (.array 16 e)) (he : P.underlying e = some (.int .i64)) (hce : P.cellsOf e = 1) (hct : P.cellsOf t = 16)
    (hv : Value.okWide P w r b0 t v) (h : DataW.Trod enc P w base spare held t v d p) :
    ∃ b : Nat → Int, v = .agg (VN 16 b) ∧ ∀ k, k < 16 → (Lit.int .i64 (b k)).wf = true := by
  obtain ⟨cs, rfl⟩ := okWide_arr ht hv
  obtain ⟨fuel, hf⟩ := h
  obtain ⟨xs, m, _, _, hl, hx, hi⟩ := DataW.trod_array ht hf
  have hcell : ∀ i, i < 16 → ∃ z, cs[i]? = some (.int .i64 z) ∧ (Lit.int .i64 z).wf = true := by
    intro i hlt
    have h1 := hi i hlt
    obtain ⟨y, hy⟩ : ∃ y, xs[i]? = some y := ⟨xs[i]'(by omega), List.getElem?_eq_getElem (by omega)⟩
    rw [hy] at h1
    obtain ⟨z, hc, _, hz⟩ := DataW.trod_int he h1
    refine ⟨z, ?_, hz⟩
    have := congrArg (·[0]?) hc
    simpa [Value.cells, hce, List.getElem?_take, List.getElem?_drop] using this
  have hsz : cs.size = 16 := by simpa [Value.cells, hct] using hl
  refine ⟨fun i => match cs[i]? with | some (.int _ z) => z | _ => 0, ?_, ?_⟩
  · congr 1
    apply Array.ext
    · rw [VN_size, hsz]
    · intro i h1 h2
      obtain ⟨z, hz, _⟩ := hcell i (by omega)
      have e1 := VN_get 16 (fun i => match cs[i]? with | some (.int _ z) => z | _ => 0) i (by omega)
      simp only [hz] at e1
      rw [Array.getElem?_eq_getElem h1] at hz
      rw [Array.getElem?_eq_getElem h2] at e1
      exact (Option.some.inj hz).trans (Option.some.inj e1).symm
  · intro k hk
    obtain ⟨z, hz, hw⟩ := hcell k hk
    simp only [hz]
    exact hw
end Go.Proofs.Ytogmlcmajecpgaa
