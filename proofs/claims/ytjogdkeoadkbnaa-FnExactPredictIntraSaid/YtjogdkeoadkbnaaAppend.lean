/- Slices of the call's own that grow by append. -/
import Derived.Test.YtjogdkeoadkbnaaSlices
namespace Go.Proofs.Ytjogdkeoadkbnaa
open Go.RowKit

def VL (k : IntKind) (n : Nat) (f : Nat → Int) : List Value := (List.range n).map fun i => Value.int k (f i)
theorem VL_len (k : IntKind) (n : Nat) (f : Nat → Int) : (VL k n f).length = n := by simp [VL]
theorem VL_get (k : IntKind) (n : Nat) (f : Nat → Int) (i : Nat) (h : i < n) : (VL k n f)[i]? = some (.int k (f i)) := by simp [VL, h]
theorem VL_congr {k : IntKind} {n : Nat} {f g : Nat → Int} (h : ∀ i, i < n → f i = g i) : VL k n f = VL k n g := by
  unfold VL
  apply List.map_congr_left
  intro i hi
  rw [h i (by simpa using hi)]
theorem VL_succ (k : IntKind) (n : Nat) (f : Nat → Int) : VL k (n + 1) f = VL k n f ++ [.int k (f n)] := by simp [VL, List.range_succ]
/-- v is a slice of the call's own, of n numbers, f of the index. -/
def OwnK (k : IntKind) (e : TypeId) (base : Nat) (w : World) (v : Value) (n : Nat) (f : Nat → Int) : Prop := w.ownsRow base e 1 v n (VL k n f)
theorem OwnK.alloc {k : IntKind} {e : TypeId} {base : Nat} {w : World} {v : Value} {n : Nat} {f : Nat → Int} (h : OwnK k e base w v n f) (o : Obj) : OwnK k e base (w.alloc o) v n f := World.ownsRow.alloc h o
theorem OwnK.congr {k : IntKind} {e : TypeId} {base : Nat} {w : World} {v : Value} {n : Nat} {f g : Nat → Int} (h : OwnK k e base w v n f) (hc : ∀ i, i < n → f i = g i) : OwnK k e base w v n g := by
  unfold OwnK at h ⊢; rw [← VL_congr hc]; exact h
theorem OwnK.drew {k : IntKind} {e : TypeId} {base : Nat} {w : World} {v : Value} {n : Nat} {f : Nat → Int} (h : OwnK k e base w v n f) : OwnK k e base w.drew v n f := h
theorem OwnK.drewN {k : IntKind} {e : TypeId} {base : Nat} {w : World} {v : Value} {n : Nat} {f : Nat → Int} (h : OwnK k e base w v n f) (m : Nat) : OwnK k e base (w.drewN m) v n f := h
theorem OwnK.nil (k : IntKind) (e : TypeId) (base : Nat) (w : World) (f : Nat → Int) : OwnK k e base w (.slice none 0 0) 0 f := World.ownsRow_nil w base e 1
theorem OwnK.made {k : IntKind} {e : TypeId} {base : Nat} {w : World} (hb : base ≤ w.heap.size) (f : Nat → Int) : OwnK k e base (w.alloc (.cells #[] e)) (.slice (some ⟨w.heap.size, 0, none⟩) 0 0) 0 f := World.ownsRow_made w #[] 0 hb (by unfold maxLen; omega) rfl
theorem OwnK.lt {k : IntKind} {e : TypeId} {base : Nat} {w : World} {v : Value} {n : Nat} {f : Nat → Int} (h : OwnK k e base w v n f) : ∀ g, v.ownBlock = some g → base ≤ g ∧ g < w.heap.size := World.ownsRow.lt h
theorem OwnK.base {k : IntKind} {e : TypeId} {base base' : Nat} {w : World} {v : Value} {n : Nat} {f : Nat → Int} (h : OwnK k e base w v n f) (hb : base' ≤ base) : OwnK k e base' w v n f := by
  refine ⟨h.1, ?_⟩
  rcases h.2 with hn | ⟨g, cap, cur, hv, hg, rest⟩
  · exact .inl hn
  · exact .inr ⟨g, cap, cur, hv, Nat.le_trans hb hg, rest⟩
/-- The block of the slice lies as it lay. -/
theorem OwnK.kept {k : IntKind} {e : TypeId} {base : Nat} {w w' : World} {v : Value} {n : Nat} {f : Nat → Int} (h : OwnK k e base w v n f) (hk : ∀ g, v.ownBlock = some g → w'.heap[g]? = w.heap[g]?) : OwnK k e base w' v n f := by
  refine ⟨h.1, ?_⟩
  rcases h.2 with hn | ⟨g, cap, cur, rfl, hg, hh, rest⟩
  · exact .inl hn
  · exact .inr ⟨g, cap, cur, rfl, hg, (hk g rfl).trans hh, rest⟩
theorem OwnK.below {k : IntKind} {e : TypeId} {base C : Nat} {w w' : World} {v : Value} {n : Nat} {f : Nat → Int} (h : OwnK k e base w v n f) (hb : Below C w w') (hC : w.heap.size ≤ C) : OwnK k e base w' v n f :=
  h.kept fun g hg => hb.block g (by have := (h.lt g hg).2; omega)
theorem OwnK.setCell {k : IntKind} {e : TypeId} {base : Nat} {w : World} {v : Value} {n : Nat} {f : Nat → Int} (h : OwnK k e base w v n f) {p : Addr} (hp : v.ownBlock ≠ some p.block) (u : Value) : OwnK k e base (w.setCell p u) v n f :=
  h.kept fun g hg => Below.heap_setCell w p u g (fun e => hp (by rw [hg, e]))
theorem OwnK.sn {k : IntKind} {e : TypeId} {base : Nat} {w : World} {v : Value} {n : Nat} {f : Nat → Int} (h : OwnK k e base w v n f) : Sn k base w.heap.size w v n f := by
  rcases h.2 with ⟨rfl, rfl⟩ | ⟨g, cap, cur, rfl, hg, hh, hn, hm, hs, ht⟩
  · exact ⟨_, _, rfl, Nat.le_refl _, fun h => absurd h (by omega)⟩
  · refine ⟨_, _, rfl, hn, fun _ => ⟨g, 0, rfl, hg, (Array.getElem?_eq_some_iff.1 hh).1, fun i hi => ⟨?_, frozen_of_row w g _ _ _ hh⟩⟩⟩
    have := World.ownsRow.cells h (g := g) rfl i _ (VL_get k n f i hi)
    rwa [show (⟨g, 0, none⟩ : Addr).add i = ⟨g, 0 + i, none⟩ by unfold Addr.add; split <;> simp_all] at this
theorem OwnK.form {k : IntKind} {e : TypeId} {base : Nat} {w : World} {v : Value} {n : Nat} {f : Nat → Int} (h : OwnK k e base w v n f) (h0 : 0 < n) : ∃ g cap, v = .slice (some ⟨g, 0, none⟩) n cap ∧ n ≤ cap ∧ base ≤ g ∧ g < w.heap.size ∧ ∀ i, i < n → w.cell? ⟨g, i, none⟩ = some (.int k (f i)) ∧ w.frozen? ⟨g, i, none⟩ = false := by
  rcases h.2 with ⟨_, h1⟩ | ⟨g, cap, cur, rfl, hg, hh, hn, hm, hs, ht⟩
  · omega
  · refine ⟨g, cap, rfl, hn, hg, (Array.getElem?_eq_some_iff.1 hh).1, fun i hi => ⟨?_, frozen_of_row w g _ _ _ hh⟩⟩
    have := World.ownsRow.cells h (g := g) rfl i _ (VL_get k n f i hi)
    rwa [show (⟨g, 0, none⟩ : Addr).add i = ⟨g, i, none⟩ by unfold Addr.add; split <;> simp_all] at this
theorem VL_set (k : IntKind) (n : Nat) (f : Nat → Int) (i : Nat) (y : Int) : (VL k n f).set i (.int k y) = VL k n (fun j => if j = i then y else f j) := by
  apply List.ext_getElem
  · simp [VL]
  · intro j h1 h2
    simp only [VL, List.getElem_set, List.getElem_map, List.getElem_range]
    by_cases h : i = j
    · simp [h]
    · simp [h, Ne.symm h]
/-- An element is stored. -/
theorem OwnK.set {k : IntKind} {e : TypeId} {base g cap : Nat} {w : World} {n : Nat} {f : Nat → Int} (h : OwnK k e base w (.slice (some ⟨g, 0, none⟩) n cap) n f) (i : Nat) (y : Int) : OwnK k e base (w.setCell ⟨g, i, none⟩ (.int k y)) (.slice (some ⟨g, 0, none⟩) n cap) n (fun j => if j = i then y else f j) := by
  rcases h.2 with ⟨h1, _⟩ | ⟨g', cap', cur, hv, hg, hh, hn, hm, hs, ht⟩
  · cases h1
  · cases hv
    refine ⟨by rw [VL_len]; omega, .inr ⟨g, cap, cur.setIfInBounds i (.int k y), rfl, hg, heap_setCell_same w g i _ _ _ hh, hn, hm, by simpa using hs, ?_⟩⟩
    rw [Array.toList_setIfInBounds, List.take_set, ht, VL_set]
/-- The new slice lies in the old one's block, or in a new one. -/
def AtNew (w : World) (v v' : Value) : Prop := v'.ownBlock = v.ownBlock ∨ v'.ownBlock = some w.heap.size
theorem grown_below {B : Nat} {a w w' : World} {v : Value} {k : IntKind} {e : TypeId} {base n : Nat} {f : Nat → Int} (h : Below B a w) (hg : w.grownBy w' v.ownBlock) (ho : OwnK k e base w v n f) (hB : B ≤ base) (hs : B ≤ w.heap.size) : Below B a w' :=
  h.grown hg hs (fun g e => by have := (ho.lt g e).1; omega)

theorem appendInt {ops : Array Oper} {rest : List Oper} {o : Oper} {a : Act} {w : World} {Q : Exit → Act → World → Prop} {s x : Operand} (base : Nat) {v : Value} {n : Nat} {f : Nat → Int} (y : Int) (G : Nat) (hown : OwnK .i64 3 base w v n f) (hc : w.cell? ⟨G, 0, none⟩ = some (.int .i64 y)) (hn : n ≤ 1000000000000) (hbase : base ≤ w.heap.size)
    (hgd : o.guard = none) (ho : o.op = .call { callee := .builtin .append, args := #[s, x], argTypes := #[22, 22] }) (hs : a.eval s = v) (hx : a.eval x = .slice (some ⟨G, 0, none⟩) 1 1)
    (h : ∀ v' w', OwnK .i64 3 base w' v' (n + 1) (fun i => if i = n then y else f i) → w.grownBy w' v.ownBlock → AtNew w v v' → wpList Try.prog ops Q rest (a.put o.dst v') w') : wpList Try.prog ops Q (o :: rest) a w := by
  obtain ⟨i0, hi, hz0, hz1, hz2⟩ := info_parts infoInt
  refine wpList_append_own_at _ hgd s x 22 ho base 3 i0 (.int .i64 0) 1 8 Try.underlying22 hi hz0 hz1 hz2 rfl (by decide) v n _ hs hown ⟨G, 0, none⟩ 1 1 [.int .i64 y] hx rfl ?_ ?_ (by unfold maxLen; omega) (by omega) hbase ?_
  · intro j u hj
    match j, hj with
    | 0, hj => simp at hj; subst hj; simpa [Addr.add] using hc
    | j + 1, hj => simp at hj
  · simp [Value.oneCell']
  · intro v' w' h1 h2 _ h4
    refine h v' w' ?_ h2 h4
    unfold OwnK
    rw [VL_succ, if_pos rfl, VL_congr (g := f) (fun i hi => by rw [if_neg (by omega)])]
    exact h1

end Go.Proofs.Ytjogdkeoadkbnaa
