/- Contracts of the functions on blocks of sixteen numbers: how such a block lies in memory, and the small functions on it. -/
import Derived.Test.YtjogdkeoadkbnaaScalar
import Derived.Laws.Rows
namespace Go.Proofs.Ytjogdkeoadkbnaa
open Go.RowKit

/-- The cells of an array of n whole numbers. -/
def VN (n : Nat) (b : Nat → Int) : Array Value := ((List.range n).map fun i => Value.int .i64 (b i)).toArray
theorem VN_size (n : Nat) (b : Nat → Int) : (VN n b).size = n := by simp [VN]
theorem VN_get (n : Nat) (b : Nat → Int) (k : Nat) (h : k < n) : (VN n b)[k]? = some (.int .i64 (b k)) := by simp [VN, h]
theorem VN_congr {n : Nat} {b c : Nat → Int} (h : ∀ k, k < n → b k = c k) : VN n b = VN n c := by
  unfold VN
  congr 1
  apply List.map_congr_left
  intro i hi
  rw [h i (by simpa using hi)]
theorem VN_set (n : Nat) (b : Nat → Int) (k : Nat) (v : Int) : (VN n b).setIfInBounds k (.int .i64 v) = VN n (fun i => if i = k then v else b i) := by
  apply Array.ext
  · simp [VN]
  · intro i h1 h2
    simp only [VN, List.setIfInBounds_toArray, List.getElem_toArray, List.getElem_set, List.getElem_map, List.getElem_range]
    by_cases h : k = i
    · simp [h]
    · simp [h, Ne.symm h]
theorem VN_one (n : Nat) (b : Nat → Int) : (VN n b).all (·.oneCell') = true := by
  rw [Array.all_eq_true_iff_forall_mem]
  intro x hx
  simp [VN] at hx
  obtain ⟨i, _, rfl⟩ := hx
  rfl

/-- Block g holds n whole numbers; it may be written. -/
def Blk (w : World) (g n : Nat) (t : TypeId) (b : Nat → Int) : Prop := w.heap[g]? = some (.cells (VN n b) t (0, 0))
theorem Blk.lt {w : World} {g n : Nat} {t : TypeId} {b : Nat → Int} (h : Blk w g n t b) : g < w.heap.size := (Array.getElem?_eq_some_iff.1 h).1
theorem Blk.cell {w : World} {g n : Nat} {t : TypeId} {b : Nat → Int} (h : Blk w g n t b) (k : Nat) (hk : k < n) : w.cell? ⟨g, k, none⟩ = some (.int .i64 (b k)) := by
  rw [cell_of_row w g k _ _ _ h, VN_get n b k hk]
theorem Blk.frozen {w : World} {g n : Nat} {t : TypeId} {b : Nat → Int} (h : Blk w g n t b) (k : Nat) : w.frozen? ⟨g, k, none⟩ = false := frozen_of_row w g k _ _ h
theorem Blk.set {w : World} {g n : Nat} {t : TypeId} {b : Nat → Int} (h : Blk w g n t b) (k : Nat) (v : Int) : Blk (w.setCell ⟨g, k, none⟩ (.int .i64 v)) g n t (fun i => if i = k then v else b i) := by
  unfold Blk
  rw [heap_setCell_same w g k _ _ _ h, VN_set]
theorem Blk.other {w : World} {g n : Nat} {t : TypeId} {b : Nat → Int} (h : Blk w g n t b) {g' k : Nat} {v : Value} (ha : g ≠ g') : Blk (w.setCell ⟨g', k, none⟩ v) g n t b := by
  unfold Blk
  rw [heap_setCell_other w ⟨g', k, none⟩ g v ha]; exact h
theorem Blk.alloc {w : World} {g n : Nat} {t : TypeId} {b : Nat → Int} (h : Blk w g n t b) (o : Obj) : Blk (w.alloc o) g n t b := by
  unfold Blk
  rw [Below.heap_alloc w o g h.lt]; exact h
theorem Blk.new (w : World) (n : Nat) (t : TypeId) (b : Nat → Int) : Blk (w.alloc (.cells (VN n b) t)) w.heap.size n t b := heap_alloc_new w _
theorem Blk.new' {w : World} {g n : Nat} {t : TypeId} {b : Nat → Int} (hg : g = w.heap.size) : Blk (w.alloc (.cells (VN n b) t)) g n t b := by subst hg; exact Blk.new w n t b
theorem Blk.below {B : Nat} {w w' : World} {g n : Nat} {t : TypeId} {b : Nat → Int} (h : Blk w g n t b) (hb : Below B w w') (hB : g < B) : Blk w' g n t b := (hb.block g hB).trans h
theorem Blk.congr {w : World} {g n : Nat} {t : TypeId} {b c : Nat → Int} (h : Blk w g n t b) (hc : ∀ k, k < n → b k = c k) : Blk w g n t c := by
  unfold Blk at h ⊢; rw [h, VN_congr hc]
theorem Blk.drewN {w : World} {g n : Nat} {t : TypeId} {b : Nat → Int} (h : Blk w g n t b) (k : Nat) : Blk (w.drewN k) g n t b := h
theorem heap_setRow_same (w : World) (g : Nat) (cs old : Array Value) (t : TypeId) (h : w.heap[g]? = some (.cells old t (0, 0))) : (w.setRow g cs).heap[g]? = some (.cells cs t (0, 0)) := setRow_heap w g old cs t (0, 0) h
theorem heap_setRow_other (w : World) (g : Nat) (cs : Array Value) (i : Nat) (h : i ≠ g) : (w.setRow g cs).heap[i]? = w.heap[i]? := by
  simp only [World.setRow, Array.getElem?_modify]
  rw [if_neg (by omega)]
theorem below_setRow {B : Nat} {a w : World} (h : Below B a w) {g : Nat} (hg : B ≤ g) (cs : Array Value) : Below B a (w.setRow g cs) :=
  h.trans ⟨rfl, rfl, rfl, by simp, fun k hk => heap_setRow_other _ _ _ _ (by omega)⟩
theorem Blk.setRow {w : World} {g n : Nat} {t : TypeId} {b : Nat → Int} (h : Blk w g n t b) (c : Nat → Int) : Blk (w.setRow g (VN n c)) g n t c := heap_setRow_same w g _ _ t h
theorem Blk.setRowOther {w : World} {g n : Nat} {t : TypeId} {b : Nat → Int} (h : Blk w g n t b) (g' : Nat) (cs : Array Value) (hg : g ≠ g') : Blk (w.setRow g' cs) g n t b := (heap_setRow_other w g' cs g hg).trans h

/-- All numbers of a block are at most m in absolute value. -/
def okB (b : Nat → Int) (m : Int) : Bool := (List.range 16).all fun k => decide (-m ≤ b k ∧ b k ≤ m)
theorem okB_true {b : Nat → Int} {m : Int} (h : ∀ k, k < 16 → -m ≤ b k ∧ b k ≤ m) : okB b m = true := by
  simp only [okB, List.all_eq_true, List.mem_range, decide_eq_true_eq]; exact h
theorem okB_out {b : Nat → Int} {m : Int} (h : okB b m = true) : ∀ k, k < 16 → -m ≤ b k ∧ b k ≤ m := by
  simpa only [okB, List.all_eq_true, List.mem_range, decide_eq_true_eq] using h
theorem okB_false {b : Nat → Int} {m : Int} (k : Nat) (hk : k < 16) (h : ¬ (-m ≤ b k ∧ b k ≤ m)) : okB b m = false := by
  cases e : okB b m with
  | false => rfl
  | true => exact absurd (okB_out e k hk) h

theorem info16 (b : Nat → Int) : (Try.prog.info? 49).map (·.size) = some (VN 16 b).size := by rw [VN_size]; kernel_rfl
theorem run_index16 (b : Nat → Int) (k : Nat) (hk : k < 16) (w : World) :
    (Instr.index 49 (.agg (VN 16 b)) (.int .i64 k)).run Try.prog w = .ok (.int .i64 (b k)) w := by
  have hg := VN_get 16 b k hk
  have hs : (sizeOf 3).run Try.prog w = .ok 1 w := by kernel_rfl
  simp [Instr.index, run_underlying Try.underlying49, run_underlying Try.underlying3, asIntOf, part, isAgg, hs, hg]
  intro h
  omega
/-- The zero value of an array of sixteen numbers. -/
theorem zero16 : VN 16 (fun _ => 0) = #[.int .i64 0, .int .i64 0, .int .i64 0, .int .i64 0, .int .i64 0, .int .i64 0, .int .i64 0, .int .i64 0, .int .i64 0, .int .i64 0, .int .i64 0, .int .i64 0, .int .i64 0, .int .i64 0, .int .i64 0, .int .i64 0] := by kernel_rfl

/-- A whole block is loaded, stored, stored as zeros, handed back. -/
theorem load16 {ops : Array Oper} {rest : List Oper} {o : Oper} {a : Act} {w : World} {Q : Exit → Act → World → Prop} {x : Operand} {b : Nat → Int} (g : Nat) (hB : Blk w g 16 49 b) (hgd : Region.wanted o (yielded ops a.tmps) = true) (ho : o.op = .load 49 x)
    (hx : a.eval x = .pointer (some ⟨g, 0, none⟩)) (h : wpList Try.prog ops Q rest (a.put o.dst (.agg (VN 16 b))) w) : wpList Try.prog ops Q (o :: rest) a w :=
  wpList_step fun K hK => by rw [if_pos hgd]; exact wp_load_row 49 x ho g hx 49 (VN 16 b) (0, 0) _ hB Try.underlying49 rfl (info16 b) (hK _ _ h)
theorem store16 {ops : Array Oper} {rest : List Oper} {o : Oper} {a : Act} {w : World} {Q : Exit → Act → World → Prop} {x y : Operand} {b : Nat → Int} (g : Nat) (c : Nat → Int) (hB : Blk w g 16 49 b) (hgd : o.guard = none) (ho : o.op = .store 49 x y)
    (hx : a.eval x = .pointer (some ⟨g, 0, none⟩)) (hy : a.eval y = .agg (VN 16 c)) (h : wpList Try.prog ops Q rest (a.put o.dst undef) (w.setRow g (VN 16 c))) : wpList Try.prog ops Q (o :: rest) a w :=
  wpList_store_row hgd 49 x y ho g (VN 16 c) hx hy 49 (VN 16 b) hB (info16 c) (by rw [VN_size, VN_size]) (VN_one _ _) h
theorem store16z {ops : Array Oper} {rest : List Oper} {o : Oper} {a : Act} {w : World} {Q : Exit → Act → World → Prop} {x y : Operand} {b : Nat → Int} (g : Nat) (hB : Blk w g 16 49 b) (hgd : o.guard = none) (ho : o.op = .store 49 x y)
    (hx : a.eval x = .pointer (some ⟨g, 0, none⟩)) (hy : a.eval y = .agg #[.int .i64 0, .int .i64 0, .int .i64 0, .int .i64 0, .int .i64 0, .int .i64 0, .int .i64 0, .int .i64 0, .int .i64 0, .int .i64 0, .int .i64 0, .int .i64 0, .int .i64 0, .int .i64 0, .int .i64 0, .int .i64 0]) (h : wpList Try.prog ops Q rest (a.put o.dst undef) (w.setRow g (VN 16 fun _ => 0))) : wpList Try.prog ops Q (o :: rest) a w :=
  store16 g (fun _ => 0) hB hgd ho hx (by rw [zero16]; exact hy) h
theorem ret16 {fn : Func} {R : Ending → World → Prop} {a : Act} {w : World} {p : Tmp} {b : Nat → Int} (g : Nat) (hr : fn.results = #[.cell p 49]) (hB : Blk w g 16 49 b) (hp : a.tmps.getD p undef = .pointer (some ⟨g, 0, none⟩)) (hd : a.defers = [])
    (hR : R (.returned (.agg (VN 16 b))) w) : bodyPost Try.prog fn R .ret a w :=
  bodyPost_ret (results_cell_row hr _ _ g 49 _ (0, 0) _ hp hB Try.underlying49 rfl (info16 _)) hd hR

end Go.Proofs.Ytjogdkeoadkbnaa
