/- The reader of the drawing functions: what its methods keep and return. -/
import Derived.Test.YtjogdkeoadkbnaaMem
import Derived.BigRegion
namespace Go.Proofs.Ytjogdkeoadkbnaa
open Go.RowKit

/-- v is a slice of n bytes, in a block below B. -/
def SlB (B : Nat) (w : World) (v : Value) (n : Nat) (b : Nat → Int) : Prop :=
  ((∃ a cap, v = .slice a 0 cap) ∧ n = 0) ∨ ∃ g off cap, v = .slice (some ⟨g, off, none⟩) n cap ∧ (0 < n → g < B) ∧ n ≤ cap ∧ ∀ i, i < n → (0 ≤ b i ∧ b i ≤ 255) ∧ w.cell? ⟨g, off + i, none⟩ = some (.int .u8 (b i))
theorem SlB.kept {B : Nat} {w w' : World} {v : Value} {n : Nat} {b : Nat → Int} (h : SlB B w v n b) (hk : ∀ g, g < B → w'.heap[g]? = w.heap[g]?) : SlB B w' v n b := by
  rcases h with h | ⟨g, off, cap, hv, hg, hn, hc⟩
  · exact Or.inl h
  · exact Or.inr ⟨g, off, cap, hv, hg, hn, fun i hi => ⟨(hc i hi).1, (World.cell?_of_block (w := w) (hk g (hg (by omega)))).trans (hc i hi).2⟩⟩

/-- The k-th number of a list that is written out in the text. -/
def pickL (l : List Int) (k : Nat) : Int := l.getD k 0
theorem pickL_bd {l : List Int} {lo hi : Int} (h : ∀ x ∈ l, lo ≤ x ∧ x ≤ hi) (k : Nat) (hk : k < l.length) : lo ≤ pickL l k ∧ pickL l k ≤ hi := by
  unfold pickL
  rw [List.getD_eq_getElem?_getD, List.getElem?_eq_getElem hk]
  exact h _ (List.getElem_mem hk)
theorem lit_cell (l : List Int) {w : World} {g : Nat} {t : TypeId} {fr : Nat × Nat} (h : w.heap[g]? = some (.cells (l.map (Value.int .i64)).toArray t fr)) (k : Nat) (hk : k < l.length) : w.cell? ⟨g, k, none⟩ = some (.int .i64 (pickL l k)) := by
  rw [cell_of_row w g k _ _ _ h]
  simp [pickL, hk]
/-- A whole number in a range is returned; nothing old has turned. -/
def Drawn (lo hi : Int) (w : World) (e : Ending) (w' : World) : Prop := ∃ k : Int, e = .returned (.int .i64 k) ∧ lo ≤ k ∧ k ≤ hi ∧ Below w.heap.size w w'

theorem xor_i64_nat (a b : Nat) (ha : a < 4611686018427387904) (hb : b < 4611686018427387904) : bits .xor .i64 (a : Int) (b : Int) = ((a ^^^ b : Nat) : Int) := by
  have hx : a ^^^ b < 2 ^ 62 := Nat.xor_lt_two_pow (by omega) (by omega)
  have h1 : (BitVec.ofInt 64 (a : Int)).toNat = a := by
    rw [BitVec.ofInt_natCast, BitVec.toNat_ofNat]; exact Nat.mod_eq_of_lt (by omega)
  have h2 : (BitVec.ofInt 64 (b : Int)).toNat = b := by
    rw [BitVec.ofInt_natCast, BitVec.toNat_ofNat]; exact Nat.mod_eq_of_lt (by omega)
  show IntKind.i64.wrap ((BitVec.ofInt 64 (a : Int) ^^^ BitVec.ofInt 64 (b : Int)).toNat : Int) = _
  rw [BitVec.toNat_xor, h1, h2, IntKind.wrap_i64]
  omega
theorem xor_i64 (x y : Int) (hx : 0 ≤ x) (hx2 : x ≤ 1000000000000) (hy : 0 ≤ y) (hy2 : y ≤ 1000000000000) : 0 ≤ bits .xor .i64 x y ∧ bits .xor .i64 x y ≤ 4611686018427387904 := by
  obtain ⟨a, rfl⟩ := Int.eq_ofNat_of_zero_le hx
  obtain ⟨b, rfl⟩ := Int.eq_ofNat_of_zero_le hy
  rw [xor_i64_nat a b (by omega) (by omega)]
  have hx : a ^^^ b < 2 ^ 62 := Nat.xor_lt_two_pow (by omega) (by omega)
  omega

end Go.Proofs.Ytjogdkeoadkbnaa
