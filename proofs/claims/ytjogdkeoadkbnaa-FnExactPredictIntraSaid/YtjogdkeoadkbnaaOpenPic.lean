/- How arguments that are slices of numbers, pictures, edges or lists of runs are opened. -/
import Derived.Test.YtjogdkeoadkbnaaOpenRow
import Derived.Test.YtjogdkeoadkbnaaSlices
import Derived.Lib.SmallJoins
import Derived.Laws.IdiomArrays
import Derived.Deep.SlicePairs
namespace Go.Proofs.Ytjogdkeoadkbnaa
open Go.Joins Go.ChangeShapes Go.WideShapes Go.ChangeAt Go.RowKit Go.Deep

theorem IsRow.sr {k : IntKind} {w : World} {a : Option Addr} {len cap : Nat} {zs : List Int} (h : IsRow k w a len cap zs) : Sr k w.heap.size w (.slice a len cap) len (fun i => zs.getD i 0) ∧ len ≤ maxLen ∧ ∀ i, i < len → (Lit.int k (zs.getD i 0)).wf = true := by
  rcases h with ⟨rfl, rfl, rfl, rfl⟩ | ⟨x, rfl, hl, hm, hz, hc, hw⟩
  · exact ⟨⟨_, _, rfl, Nat.le_refl _, fun h => absurd h (by omega)⟩, by unfold maxLen; omega, fun i hi => absurd hi (by omega)⟩
  · refine ⟨⟨_, _, rfl, hl, fun h0 => ?_⟩, by omega, fun i hi => hw _ (by rw [List.getD_eq_getElem?_getD, List.getElem?_eq_getElem (by omega)]; exact List.getElem_mem _)⟩
    obtain ⟨g, off, spot⟩ := x
    have hc0 := hc 0 (by omega)
    have hspot : spot = none := by simpa [Addr.add] using World.cell?_spot hc0
    subst hspot
    refine ⟨g, off, rfl, ?_, fun i hi => ?_⟩
    · have := World.block_lt_of_cell? w _ hc0
      simpa [Addr.add] using this
    · have := hc i (by omega)
      rwa [show (⟨g, off, none⟩ : Addr).add i = ⟨g, off + i, none⟩ by unfold Addr.add; split <;> simp_all] at this

/-- What is known of a picture that came in. -/
def IsPic (w : World) (pw ph : Int) (a : Option Addr) (len cap : Nat) (zs : List Int) : Prop := (Lit.int .i64 pw).wf = true ∧ (Lit.int .i64 ph).wf = true ∧ IsRow .i64 w a len cap zs
theorem open_picture {H : Type} {enc : TypeId × Value → H} {w : World} {r : Reach} {b0 : Nat} {v : Value} {d : DataW H} {p : List MemPlace}
    (hv : Value.okWide Try.prog w r b0 29 v) (h : DataW.Trod enc Try.prog w 0 (fun _ => true) true 29 v d p) :
    ∃ pw ph a len cap zs, v = .agg #[.int .i64 pw, .int .i64 ph, .slice a len cap] ∧ IsPic w pw ph a len cap zs := by
  obtain ⟨v0, v1, v2, y0, y1, y2, n, rfl, _, _, h0, h1, h2⟩ := open_agg3 Try.underlying29 (by kernel_rfl) (by kernel_rfl) hv h
  obtain ⟨z0, e0, _, w0⟩ := DataW.trod_int Try.underlying3 h0
  obtain ⟨z1, e1, _, w1⟩ := DataW.trod_int Try.underlying3 h1
  simp at e0 e1
  subst e0 e1
  rcases open_ints Try.underlying22 Try.underlying3 (by kernel_rfl) h2 with ⟨hcs, _⟩ | ⟨x, l, c, zs, hcs, _, hl, hm, hz, _, hcell, hwz⟩
  · simp at hcs
    subst hcs
    exact ⟨_, _, _, _, _, [], rfl, w0, w1, .inl ⟨rfl, rfl, rfl, rfl⟩⟩
  · simp at hcs
    subst hcs
    exact ⟨_, _, _, _, _, zs, rfl, w0, w1, .inr ⟨_, rfl, hl, hm, by simpa using hz, hcell, hwz⟩⟩

/-- The cells of edges: four above, four to the left, the corner, and what is available. -/
def edgV (a b : Nat → Int) (c : Int) (u v : Bool) : Array Value := #[.int .i64 (a 0), .int .i64 (a 1), .int .i64 (a 2), .int .i64 (a 3), .int .i64 (b 0), .int .i64 (b 1), .int .i64 (b 2), .int .i64 (b 3), .int .i64 c, .bool u, .bool v]
def fun4 (x0 x1 x2 x3 : Int) (i : Nat) : Int := if i = 0 then x0 else if i = 1 then x1 else if i = 2 then x2 else x3
theorem open_edges {H : Type} {enc : TypeId × Value → H} {w : World} {r : Reach} {b0 : Nat} {v : Value} {d : DataW H} {p : List MemPlace}
    (hv : Value.okWide Try.prog w r b0 45 v) (h : DataW.Trod enc Try.prog w 0 (fun _ => true) true 45 v d p) :
    ∃ a b c u t, v = .agg (edgV a b c u t) ∧ True := by
  obtain ⟨cs, rfl, hsz⟩ := okWide_struct Try.underlying45 hv
  have hC : Try.prog.cellsOf 45 = 11 := by kernel_rfl
  have c4 : Try.prog.cellsOf 39 = 4 := by kernel_rfl
  have c1 : Try.prog.cellsOf 3 = 1 := by kernel_rfl
  have cb : Try.prog.cellsOf 4 = 1 := by kernel_rfl
  obtain ⟨l⟩ := cs
  match l, hsz.trans hC with
  | [x0, x1, x2, x3, x4, x5, x6, x7, x8, x9, x10], _ =>
    obtain ⟨fuel, hf⟩ := h
    obtain ⟨xs, n, _, hx, _, hlen, hg⟩ := DataW.trod_struct Try.underlying45 hf
    match xs, hlen with
    | [y0, y1, y2, y3, y4], _ =>
      have g0 := hg 0 _ rfl
      have g1 := hg 1 _ rfl
      have g2 := hg 2 _ rfl
      have g3 := hg 3 _ rfl
      have g4 := hg 4 _ rfl
      simp [Value.cells, c4, c1, cb] at g0 g1 g2 g3 g4
      obtain ⟨_, _, _, _, n0, _, a0, a1, a2, a3⟩ := trod_array4 Try.underlying39 c1 g0
      obtain ⟨_, _, _, _, n1, _, b0, b1, b2, b3⟩ := trod_array4 Try.underlying39 c1 g1
      obtain ⟨z0, e0, _⟩ := DataW.trod_int Try.underlying3 a0
      obtain ⟨z1, e1, _⟩ := DataW.trod_int Try.underlying3 a1
      obtain ⟨z2, e2, _⟩ := DataW.trod_int Try.underlying3 a2
      obtain ⟨z3, e3, _⟩ := DataW.trod_int Try.underlying3 a3
      obtain ⟨z4, e4, _⟩ := DataW.trod_int Try.underlying3 b0
      obtain ⟨z5, e5, _⟩ := DataW.trod_int Try.underlying3 b1
      obtain ⟨z6, e6, _⟩ := DataW.trod_int Try.underlying3 b2
      obtain ⟨z7, e7, _⟩ := DataW.trod_int Try.underlying3 b3
      obtain ⟨z8, e8, _⟩ := DataW.trod_int Try.underlying3 g2
      obtain ⟨z9, e9, _⟩ := DataW.trod_bool Try.underlying4 g3
      obtain ⟨z10, e10, _⟩ := DataW.trod_bool Try.underlying4 g4
      simp at e0 e1 e2 e3 e4 e5 e6 e7 e8 e9 e10
      subst e0 e1 e2 e3 e4 e5 e6 e7 e8 e9 e10
      exact ⟨fun4 z0 z1 z2 z3, fun4 z4 z5 z6 z7, z8, z9, z10, rfl, trivial⟩

end Go.Proofs.Ytjogdkeoadkbnaa
