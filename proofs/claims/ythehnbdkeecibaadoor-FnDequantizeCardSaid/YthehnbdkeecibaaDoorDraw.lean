/- The reader's functions once more, for statements whose order is open: the reader's state and what has not turned, in one word. -/
import Derived.Test.YthehnbdkeecibaaDoorReader
import Derived.Deep.RegionWith
namespace Go.Proofs.YthehnbdkeecibaaDoor
open Go.RowKit

/-- R is a reader asked at most m times, and below B nothing has turned since w0. -/
def St (B R m : Nat) (w0 w : World) : Prop := Rd B w R m ∧ Below B w0 w
theorem St.alloc {B R m : Nat} {w0 w : World} (h : St B R m w0 w) (o : Obj) : St B R m w0 (w.alloc o) := ⟨h.1.alloc o, h.2.alloc (by have := h.1.le; have := h.1.lt; omega) o⟩
theorem St.drew {B R m : Nat} {w0 w : World} (h : St B R m w0 w) : St B R m w0 w.drew := ⟨h.1.kept (fun _ _ => rfl), h.2.drew⟩
theorem St.lt {B R m : Nat} {w0 w : World} (h : St B R m w0 w) : R < w.heap.size := h.1.lt
theorem St.mono {B R m m' : Nat} {w0 w : World} (h : St B R m w0 w) (hm : m ≤ m') : St B R m' w0 w := ⟨h.1.mono hm, h.2⟩
theorem lit_get (l : List Int) (j : Nat) (h : j < (l.map (Value.int .i64)).length) : (l.map (Value.int .i64))[j]'h = .int .i64 (pickL l j) := by
  have h' : j < l.length := by simpa using h
  simp [pickL, h']

def PickS (B R m : Nat) (n : Int) (w0 w : World) (e : Ending) (w' : World) : Prop :=
  ∃ k : Nat, e = .returned (.int .i64 (k : Int)) ∧ (k : Int) < n ∧ k < n.toNat ∧ St B R (m + 1) w0 w' ∧ (∀ b o, R < b → w'.cell? ⟨b, o, none⟩ = w.cell? ⟨b, o, none⟩) ∧ w.heap.size ≤ w'.heap.size ∧ R < w'.heap.size
theorem pick_st (B R m : Nat) (n : Int) (w0 w : World) (h : St B R m w0 w) (hm : m ≤ 1000000) (hn : n ≤ 1000000) (hn0 : 1 ≤ n) :
    Calls Tryd.prog 30 #[.pointer (some ⟨R, 0, none⟩), .int .i64 n] w (PickS B R m n w0 w) :=
  (pick_any B R m n w h.1 hm hn).mono fun e w' ⟨k, he, h0, h1, hr, ho⟩ => by
    obtain ⟨j, rfl⟩ := Int.eq_ofNat_of_zero_le h0
    exact ⟨j, he, by omega, by omega, ⟨hr, h.2.trans (ho.below h.1.le)⟩, fun b o hb => World.cell?_of_block (w := w) (ho.block b (by omega)), by rw [ho.size]; exact Nat.le_refl _, hr.lt⟩
end Go.Proofs.YthehnbdkeecibaaDoor
