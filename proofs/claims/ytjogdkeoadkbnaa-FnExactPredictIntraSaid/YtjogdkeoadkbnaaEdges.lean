/- Edges: how they lie in memory, their copying, whether they are valid. -/
import Derived.Test.YtjogdkeoadkbnaaPic
import Derived.Test.YtjogdkeoadkbnaaOpenPic
import Derived.Deep.Cut
namespace Go.Proofs.Ytjogdkeoadkbnaa
open Go.RowKit

theorem info4 (b : Nat → Int) : (Try.prog.info? 39).map (·.size) = some (VN 4 b).size := by rw [VN_size]; kernel_rfl
theorem zero4 : VN 4 (fun _ => 0) = #[.int .i64 0, .int .i64 0, .int .i64 0, .int .i64 0] := by kernel_rfl
theorem toIntA4_any (b : Nat → Int) (w : World) :
    Calls Try.prog 56 #[.agg (VN 4 b)] w fun e w' => e = .returned (.agg (VN 4 b)) ∧ Below w.heap.size w w' := by
  go_enter Try.func56, Try.ntmps56
  go_wp2
  go_loopw [4] (fun i wr => ∃ k : Nat, k ≤ 4 ∧ i = .int .i64 k ∧ Blk wr w.heap.size 4 39 b ∧ Blk wr (w.heap.size + 1) 4 39 (fun _ => 0) ∧ Blk wr (w.heap.size + 2) 4 39 (fun i => if i < k then b i else 0) ∧ Below w.heap.size w wr) (fun i _ => 4 - (intOf i).toNat)
  case atStart =>
    refine ⟨0, by omega, rfl, ?_, ?_, ?_, ?_⟩
    · exact ((Blk.new w 4 _ b).alloc _).alloc _
    · rw [← zero4]
      exact (Blk.new' (by simp)).alloc _
    · rw [← zero4]
      exact Blk.new' (by simp)
    · exact (((Below.refl _ _).alloc (Nat.le_refl _) _).alloc (by simp) _).alloc (by simp; omega) _
  case round =>
    obtain ⟨k, hk, rfl, hA, hZ, hR, hbel⟩ := hrel
    by_cases hlt : k < 4
    · have c1 := hA.cell k hlt
      have c2 := hR.cell k hlt
      have f2 := hR.frozen k
      go_wp2
      go_roundw
      case rel =>
        exact ⟨k + 1, by omega, by go_num, hA.other (by omega), hZ.other (by omega), (hR.set k (b k)).congr (fun j hj => by by_cases e : j = k <;> by_cases e2 : j < k <;> by_cases e3 : j < k + 1 <;> simp [e, e2, e3] <;> omega), hbel.setCell (by simp; omega) _⟩
      case measure => simp [intOf]; omega
    · obtain rfl : k = 4 := by omega
      have hR' : Blk wr (w.heap.size + 2) 4 39 b := hR.congr (fun j hj => by simp [hj])
      go_wp2_with (first | (refine wpList_load_row rfl 39 _ rfl (w.heap.size + 2) rfl 39 (VN 4 b) (0, 0) _ hR' Try.underlying39 rfl (info4 b) ?_) | (refine wpList_store_row rfl 39 _ _ rfl (w.heap.size + 1) (VN 4 b) rfl rfl 39 (VN 4 fun _ => 0) hZ (info4 b) (by rw [VN_size, VN_size]) (VN_one _ _) ?_))
      refine bodyPost_ret (v := .agg (VN 4 b)) (results_cell_row Try.results56 _ _ (w.heap.size + 1) 39 _ (0, 0) _ rfl (hZ.setRow b) Try.underlying39 rfl (info4 b)) rfl ⟨rfl, below_setRow hbel (by omega) _⟩

/-- Block g holds eleven cells of edges. -/
def EdgB (w : World) (g : Nat) (t : TypeId) (cs : Array Value) : Prop := w.heap[g]? = some (.cells cs t (0, 0))
theorem EdgB.lt {w : World} {g : Nat} {t : TypeId} {cs : Array Value} (h : EdgB w g t cs) : g < w.heap.size := (Array.getElem?_eq_some_iff.1 h).1
theorem EdgB.cell {w : World} {g : Nat} {t : TypeId} {cs : Array Value} (h : EdgB w g t cs) (k : Nat) : w.cell? ⟨g, k, none⟩ = cs[k]? := cell_of_row w g k _ _ _ h
theorem EdgB.fr {w : World} {g : Nat} {t : TypeId} {cs : Array Value} (h : EdgB w g t cs) (k : Nat) : w.frozen? ⟨g, k, none⟩ = false := frozen_of_row w g k _ _ h
theorem EdgB.below {B : Nat} {w w' : World} {g : Nat} {t : TypeId} {cs : Array Value} (h : EdgB w g t cs) (hb : Below B w w') (hB : g < B) : EdgB w' g t cs := (hb.block g hB).trans h
theorem EdgB.alloc {w : World} {g : Nat} {t : TypeId} {cs : Array Value} (h : EdgB w g t cs) (o : Obj) : EdgB (w.alloc o) g t cs := by
  unfold EdgB
  rw [Below.heap_alloc w o g h.lt]; exact h
theorem EdgB.new' {w : World} {g : Nat} {t : TypeId} {cs : Array Value} (hg : g = w.heap.size) : EdgB (w.alloc (.cells cs t)) g t cs := by subst hg; exact heap_alloc_new w _
theorem EdgB.set {w : World} {g : Nat} {t : TypeId} {cs : Array Value} (h : EdgB w g t cs) (k : Nat) (v : Value) : EdgB (w.setCell ⟨g, k, none⟩ v) g t (cs.setIfInBounds k v) := heap_setCell_same w g k _ _ _ h
theorem EdgB.other {w : World} {g : Nat} {t : TypeId} {cs : Array Value} (h : EdgB w g t cs) {g' k : Nat} {v : Value} (ha : g ≠ g') : EdgB (w.setCell ⟨g', k, none⟩ v) g t cs := by
  unfold EdgB
  rw [heap_setCell_other w ⟨g', k, none⟩ g v ha]; exact h
theorem EdgB.cast {w : World} {g : Nat} {t : TypeId} {cs cs' : Array Value} (h : EdgB w g t cs) (e : cs = cs') : EdgB w g t cs' := e ▸ h
theorem l1In_any (n lo hi : Int) (w : World) : Calls Try.prog 38 #[.int .i64 n, .int .i64 lo, .int .i64 hi] w fun e w' => e = .returned (.bool (decide (lo ≤ n ∧ n ≤ hi))) ∧ w = w' := by
  by_cases h : lo ≤ n ∧ n ≤ hi
  · rw [decide_eq_true h]; exact l1In_yes _ _ _ _ h.1 h.2
  · rw [decide_eq_false h]; exact l1In_no _ _ _ _ (by omega)
set_option maxHeartbeats 1000000 in
theorem toEdges_any (a b : Nat → Int) (c : Int) (u v : Bool) (w : World) :
    Calls Try.prog 33 #[.agg (edgV a b c u v)] w fun e w' => e = .returned (.agg (edgV a b c u v)) ∧ Below w.heap.size w w' := by
  obtain ⟨w0, hw0⟩ : ∃ w0, w0 = ((w.alloc (.cells (edgV a b c u v) 45)).alloc (.cells #[.int .i64 0, .int .i64 0, .int .i64 0, .int .i64 0, .int .i64 0, .int .i64 0, .int .i64 0, .int .i64 0, .int .i64 0, .bool false, .bool false] 41)).alloc (.cells #[.int .i64 0, .int .i64 0, .int .i64 0, .int .i64 0, .int .i64 0, .int .i64 0, .int .i64 0, .int .i64 0, .int .i64 0, .bool false, .bool false] 41) := ⟨_, rfl⟩
  have hA : EdgB w0 w.heap.size 45 (edgV a b c u v) := by rw [hw0]; exact ((EdgB.new' rfl).alloc _).alloc _
  have hZ : EdgB w0 (w.heap.size + 1) 41 #[.int .i64 0, .int .i64 0, .int .i64 0, .int .i64 0, .int .i64 0, .int .i64 0, .int .i64 0, .int .i64 0, .int .i64 0, .bool false, .bool false] := by rw [hw0]; exact (EdgB.new' (by simp)).alloc _
  have hO : EdgB w0 (w.heap.size + 2) 41 #[.int .i64 0, .int .i64 0, .int .i64 0, .int .i64 0, .int .i64 0, .int .i64 0, .int .i64 0, .int .i64 0, .int .i64 0, .bool false, .bool false] := by rw [hw0]; exact EdgB.new' (by simp)
  have hbel : Below w.heap.size w w0 := by rw [hw0]; exact (((Below.refl _ _).alloc (Nat.le_refl _) _).alloc (by simp) _).alloc (by simp; omega) _
  have hs : w.heap.size + 3 = w0.heap.size := by rw [hw0]; simp
  have HW := Lib.hid hw0; clear hw0
  unfold edgV at HW hA ⊢
  go_enter Try.func33, Try.ntmps33
  go_wp2_with fail
  rw [← HW.out]
  clear HW
  refine (toIntA4_any a _).mono ?_; rintro e w1 ⟨rfl, hb1⟩
  have hA1 := hA.below hb1 hA.lt
  have hZ1 := hZ.below hb1 hZ.lt
  have hO1 := hO.below hb1 hO.lt
  have hbel1 := hbel.trans (hb1.mono hbel.size)
  have v4 : ∀ f : Nat → Int, VN 4 f = #[.int .i64 (f 0), .int .i64 (f 1), .int .i64 (f 2), .int .i64 (f 3)] := fun f => rfl
  rw [v4]
  have a4 := hA1.cell 4; have a5 := hA1.cell 5; have a6 := hA1.cell 6; have a7 := hA1.cell 7
  have o0 := hO1.cell 0; have o1 := hO1.cell 1; have o2 := hO1.cell 2; have o3 := hO1.cell 3
  have f0 := hO1.fr 0; have f1 := hO1.fr 1; have f2 := hO1.fr 2; have f3 := hO1.fr 3
  simp at a4 a5 a6 a7 o0 o1 o2 o3
  obtain ⟨w2, hw2⟩ : ∃ w2, w2 = ((((w1.setCell ⟨w.heap.size + 1 + 1, 0, none⟩ (.int .i64 (a 0))).setCell ⟨w.heap.size + 1 + 1, 1, none⟩ (.int .i64 (a 1))).setCell ⟨w.heap.size + 1 + 1, 2, none⟩ (.int .i64 (a 2))).setCell ⟨w.heap.size + 1 + 1, 3, none⟩ (.int .i64 (a 3))) := ⟨_, rfl⟩
  have hO2 : EdgB w2 (w.heap.size + 2) 41 #[.int .i64 (a 0), .int .i64 (a 1), .int .i64 (a 2), .int .i64 (a 3), .int .i64 0, .int .i64 0, .int .i64 0, .int .i64 0, .int .i64 0, .bool false, .bool false] := by rw [hw2]; exact ((((hO1.set 0 _).set 1 _).set 2 _).set 3 _).cast (by kernel_rfl)
  have hA2 : EdgB w2 w.heap.size 45 (edgV a b c u v) := by rw [hw2]; exact (((hA1.other (by omega)).other (by omega)).other (by omega)).other (by omega)
  have hZ2 : EdgB w2 (w.heap.size + 1) 41 #[.int .i64 0, .int .i64 0, .int .i64 0, .int .i64 0, .int .i64 0, .int .i64 0, .int .i64 0, .int .i64 0, .int .i64 0, .bool false, .bool false] := by rw [hw2]; exact (((hZ1.other (by omega)).other (by omega)).other (by omega)).other (by omega)
  have hbel2 : Below w.heap.size w w2 := by rw [hw2]; exact (((hbel1.setCell (by simp; omega) _).setCell (by simp; omega) _).setCell (by simp; omega) _).setCell (by simp; omega) _
  have HW := Lib.hid hw2; clear hw2
  clear hA hZ hO hbel
  go_wp2_with fail
  rw [← HW.out]
  clear HW hA1 hZ1 hO1 hbel1 a4 a5 a6 a7 o0 o1 o2 o3 f0 f1 f2 f3 hb1
  refine (toIntA4_any b _).mono ?_; rintro e w3 ⟨rfl, hb3⟩
  have hA3 := hA2.below hb3 hA2.lt
  have hZ3 := hZ2.below hb3 hZ2.lt
  have hO3 := hO2.below hb3 hO2.lt
  have hbel3 := hbel2.trans (hb3.mono hbel2.size)
  clear hA2 hZ2 hO2 hbel2 hb3
  rw [v4]
  have a8 := hA3.cell 8; have a9 := hA3.cell 9; have a10 := hA3.cell 10
  have o4 := hO3.cell 4; have o5 := hO3.cell 5; have o6 := hO3.cell 6; have o7 := hO3.cell 7; have o8 := hO3.cell 8; have o9 := hO3.cell 9; have o10 := hO3.cell 10
  have f4 := hO3.fr 4; have f5 := hO3.fr 5; have f6 := hO3.fr 6; have f7 := hO3.fr 7; have f8 := hO3.fr 8; have f9 := hO3.fr 9; have f10 := hO3.fr 10
  simp [edgV] at a8 a9 a10 o4 o5 o6 o7 o8 o9 o10
  obtain ⟨w4, hw4⟩ : ∃ w4, w4 = ((((((w3.setCell ⟨w.heap.size + 1 + 1, 4, none⟩ (.int .i64 (b 0))).setCell ⟨w.heap.size + 1 + 1, 5, none⟩ (.int .i64 (b 1))).setCell ⟨w.heap.size + 1 + 1, 6, none⟩ (.int .i64 (b 2))).setCell ⟨w.heap.size + 1 + 1, 7, none⟩ (.int .i64 (b 3))).setCell ⟨w.heap.size + 1 + 1, 8, none⟩ (.int .i64 c)).setCell ⟨w.heap.size + 1 + 1, 9, none⟩ (.bool u)).setCell ⟨w.heap.size + 1 + 1, 10, none⟩ (.bool v) := ⟨_, rfl⟩
  have hO4 : EdgB w4 (w.heap.size + 2) 41 (edgV a b c u v) := by rw [hw4]; exact (((((((hO3.set 4 _).set 5 _).set 6 _).set 7 _).set 8 _).set 9 _).set 10 _).cast (by kernel_rfl)
  have hZ4 : EdgB w4 (w.heap.size + 1) 41 #[.int .i64 0, .int .i64 0, .int .i64 0, .int .i64 0, .int .i64 0, .int .i64 0, .int .i64 0, .int .i64 0, .int .i64 0, .bool false, .bool false] := by rw [hw4]; exact ((((((hZ3.other (by omega)).other (by omega)).other (by omega)).other (by omega)).other (by omega)).other (by omega)).other (by omega)
  have hbel4 : Below w.heap.size w w4 := by rw [hw4]; exact ((((((hbel3.setCell (by simp; omega) _).setCell (by simp; omega) _).setCell (by simp; omega) _).setCell (by simp; omega) _).setCell (by simp; omega) _).setCell (by simp; omega) _).setCell (by simp; omega) _
  have HW := Lib.hid hw4; clear hw4
  have hi : (Try.prog.info? 41).map (·.size) = some (edgV a b c u v).size := by kernel_rfl
  have hone : (edgV a b c u v).all (·.oneCell') = true := by simp [edgV, Value.oneCell']
  go_upto_region 7 with fail
  rw [← HW.out]
  clear HW hA3 hZ3 hO3 hbel3 a8 a9 a10 o4 o5 o6 o7 o8 o9 o10 f4 f5 f6 f7 f8 f9 f10
  go_wp2_with (first | (refine wpList_load_row rfl 41 _ rfl (w.heap.size + 2) rfl 41 (edgV a b c u v) (0, 0) _ hO4 Try.underlying41 rfl hi ?_) | (refine wpList_store_row rfl 41 _ _ rfl (w.heap.size + 1) (edgV a b c u v) rfl rfl 41 #[.int .i64 0, .int .i64 0, .int .i64 0, .int .i64 0, .int .i64 0, .int .i64 0, .int .i64 0, .int .i64 0, .int .i64 0, .bool false, .bool false] hZ4 hi rfl hone ?_))
  refine bodyPost_ret (v := .agg (edgV a b c u v)) (results_cell_row Try.results33 _ _ (w.heap.size + 1) 41 _ (0, 0) _ rfl (heap_setRow_same _ _ _ _ _ hZ4) Try.underlying41 rfl hi) rfl ⟨rfl, below_setRow hbel4 (by omega) _⟩
def edgB (a b : Nat → Int) (c : Int) : Bool := smpB a 4 && smpB b 4 && decide (0 ≤ c ∧ c ≤ 255)
theorem iEdgesValid_any (a b : Nat → Int) (c : Int) (u v : Bool) (w : World) :
    Calls Try.prog 34 #[.agg (edgV a b c u v)] w fun e w' => e = .returned (.bool (edgB a b c)) ∧ Below w.heap.size w w' := by
  obtain ⟨w0, hw0⟩ : ∃ w0, w0 = w.alloc (.cells (edgV a b c u v) 41) := ⟨_, rfl⟩
  have hA : EdgB w0 w.heap.size 41 (edgV a b c u v) := by rw [hw0]; exact EdgB.new' rfl
  have hbel : Below w.heap.size w w0 := by rw [hw0]; exact (Below.refl _ _).alloc (Nat.le_refl _) _
  have h1 : Hid (Sr .i64 w0.heap.size w0 (.slice (some ⟨w.heap.size, 0, none⟩) 4 4) 4 a) := ⟨_, _, rfl, Nat.le_refl _, fun _ => ⟨_, 0, rfl, hA.lt, fun i hi => by
    rw [hA.cell]
    match i, hi with
    | 0, _ => rfl
    | 1, _ => rfl
    | 2, _ => rfl
    | 3, _ => rfl⟩⟩
  have h2 : Hid (Sr .i64 w0.heap.size w0 (.slice (some ⟨w.heap.size, 4, none⟩) 4 4) 4 b) := ⟨_, _, rfl, Nat.le_refl _, fun _ => ⟨_, 4, rfl, hA.lt, fun i hi => by
    rw [hA.cell]
    match i, hi with
    | 0, _ => rfl
    | 1, _ => rfl
    | 2, _ => rfl
    | 3, _ => rfl⟩⟩
  have a8 := hA.cell 8
  simp [edgV] at a8
  have HW := Lib.hid hw0; clear hw0
  unfold edgV at HW ⊢
  go_enter Try.func34, Try.ntmps34
  go_wp2_with fail
  rw [← HW.out]
  clear HW
  refine (samplesIn_sr _ 4 _ a _ h1.out (by omega)).mono ?_; rintro e w' ⟨rfl, rfl⟩
  by_cases q1 : smpB a 4 = true
  · rw [q1]
    go_wp2_with fail
    refine (samplesIn_sr _ 4 _ b _ h2.out (by omega)).mono ?_; rintro e w' ⟨rfl, rfl⟩
    by_cases q2 : smpB b 4 = true
    · rw [q2]
      go_wp2_with fail
      by_cases q3 : 0 ≤ c ∧ c ≤ 255
      · refine (sampleValid_yes _ _ q3.1 q3.2).mono ?_; rintro e w' ⟨rfl, rfl⟩
        go_wp2_with fail
        go_ret
        exact ⟨by unfold edgB; rw [q1, q2, decide_eq_true q3]; rfl, hbel⟩
      · refine (sampleValid_no _ _ (by omega)).mono ?_; rintro e w' ⟨rfl, rfl⟩
        go_wp2_with fail
        go_ret
        exact ⟨by unfold edgB; rw [q1, q2, decide_eq_false q3]; rfl, hbel⟩
    · have q2 : smpB b 4 = false := by simpa using q2
      rw [q2]
      go_wp2_with fail
      go_ret
      exact ⟨by unfold edgB; rw [q1, q2]; rfl, hbel⟩
  · have q1 : smpB a 4 = false := by simpa using q1
    rw [q1]
    go_wp2_with fail
    go_ret
    exact ⟨by unfold edgB; rw [q1]; rfl, hbel⟩
theorem smpB_step (a : Nat → Int) (k : Nat) : smpB a (k + 1) = (smpB a k && decide (0 ≤ a k ∧ a k ≤ 255)) := by
  unfold smpB; rw [List.range_succ, List.all_append]; simp
theorem sEdgesValid_any (a b : Nat → Int) (c : Int) (u v : Bool) (w : World) :
    Calls Try.prog 32 #[.agg (edgV a b c u v)] w fun e w' => e = .returned (.bool (edgB a b c)) ∧ Below w.heap.size w w' := by
  obtain ⟨w0, hw0⟩ : ∃ w0, w0 = w.alloc (.cells (edgV a b c u v) 41) := ⟨_, rfl⟩
  have hA : EdgB w0 w.heap.size 41 (edgV a b c u v) := by rw [hw0]; exact EdgB.new' rfl
  have hbel : Below w.heap.size w w0 := by rw [hw0]; exact (Below.refl _ _).alloc (Nat.le_refl _) _
  have h1 : Hid (∀ i, i < 4 → w0.cell? ⟨w.heap.size, i, none⟩ = some (.int .i64 (a i))) := fun i hi => by
    rw [hA.cell]
    match i, hi with
    | 0, _ => rfl
    | 1, _ => rfl
    | 2, _ => rfl
    | 3, _ => rfl
  have h2 : Hid (∀ i, i < 4 → w0.cell? ⟨w.heap.size, 4 + i, none⟩ = some (.int .i64 (b i))) := fun i hi => by
    rw [hA.cell]
    match i, hi with
    | 0, _ => rfl
    | 1, _ => rfl
    | 2, _ => rfl
    | 3, _ => rfl
  have a8 := hA.cell 8
  simp [edgV] at a8
  have HW := Lib.hid hw0; clear hw0
  unfold edgV at HW ⊢
  go_enter Try.func32, Try.ntmps32
  go_wp2_with fail
  rw [← HW.out]
  clear HW
  refine (l1In_any _ _ _ _).mono ?_; rintro e w' ⟨rfl, rfl⟩
  go_wp2_with fail
  go_loop [3, 4] (fun ok i => ∃ k : Nat, k ≤ 4 ∧ i = .int .i64 k ∧ ok = .bool (decide (0 ≤ c ∧ c ≤ 255) && smpB a k && smpB b k)) (fun _ i => 4 - (intOf i).toNat)
  case atStart => exact ⟨0, by omega, rfl, by simp [smpB]⟩
  case round =>
    obtain ⟨k, hk, rfl, rfl⟩ := hrel
    by_cases hlt : k < 4
    · have hlt' : (k : Int) < 4 := by omega
      have hk0 : (0 : Int) ≤ k := by omega
      have c1 := h1.out k hlt
      have c2 := h2.out k hlt
      have s1 := smpB_step a k
      have s2 := smpB_step b k
      have HS1 := Lib.hid s1; have HS2 := Lib.hid s2
      clear s1 s2
      obtain ⟨p, hp⟩ : ∃ p, (decide (0 ≤ c ∧ c ≤ 255) && smpB a k && smpB b k) = p := ⟨_, rfl⟩
      have HP := Lib.hid hp
      rw [hp]
      clear hp
      cases p
      · go_wp2_with fail
        go_round
        case rel => exact ⟨k + 1, by omega, by go_num, by rw [HS1.out, HS2.out]; have := HP.out; revert this; cases decide (0 ≤ c ∧ c ≤ 255) <;> cases smpB a k <;> cases smpB b k <;> simp⟩
        case measure => simp [intOf]; omega
      · go_wp2_with fail
        refine (l1In_any _ _ _ _).mono ?_; rintro e w' ⟨rfl, rfl⟩
        obtain ⟨p1, hp1⟩ : ∃ p, decide (0 ≤ a k ∧ a k ≤ 255) = p := ⟨_, rfl⟩
        rw [hp1]
        have HP1 := Lib.hid hp1; clear hp1
        cases p1
        · go_wp2_with fail
          go_round
          case rel => exact ⟨k + 1, by omega, by go_num, by rw [HS1.out, HS2.out, HP1.out]; simp⟩
          case measure => simp [intOf]; omega
        · go_wp2_with fail
          refine (l1In_any _ _ _ _).mono ?_; rintro e w' ⟨rfl, rfl⟩
          go_wp2_with fail
          go_round
          case rel => exact ⟨k + 1, by omega, by go_num, by rw [HS1.out, HS2.out, HP1.out]; have := HP.out; revert this; cases decide (0 ≤ c ∧ c ≤ 255) <;> cases smpB a k <;> cases smpB b k <;> simp⟩
          case measure => simp [intOf]; omega
    · obtain rfl : k = 4 := by omega
      have hF : (decide (0 ≤ c ∧ c ≤ 255) && smpB a 4 && smpB b 4) = edgB a b c := by unfold edgB; rw [Bool.and_assoc, Bool.and_comm]
      obtain ⟨q, hq⟩ : ∃ q, edgB a b c = q := ⟨_, rfl⟩
      rw [hF, hq]
      have HQ := Lib.hid hq
      clear hF hq
      go_wp2_with fail
      go_ret
      exact ⟨by rw [HQ.out]; rfl, hbel⟩
theorem FnExactEdgesValid_walk (a b : Nat → Int) (c : Int) (u v : Bool) (w : World) :
    Calls Try.prog 10 #[.agg (edgV a b c u v)] w fun e w' => e = .returned (.bool true) ∧ Below w.heap.size w w' := by
  obtain ⟨w0, hw0⟩ : ∃ w0, w0 = w.alloc (.cells (edgV a b c u v) 45) := ⟨_, rfl⟩
  have hA : EdgB w0 w.heap.size 45 (edgV a b c u v) := by rw [hw0]; exact EdgB.new' rfl
  have hbel : Below w.heap.size w w0 := by rw [hw0]; exact (Below.refl _ _).alloc (Nat.le_refl _) _
  have HW := Lib.hid hw0; clear hw0
  have hi : (Try.prog.info? 45).map (·.size) = some (edgV a b c u v).size := by kernel_rfl
  have hE : Hid (edgV a b c u v = edgV a b c u v) := rfl
  go_enter Try.func10, Try.ntmps10
  go_wp2_with (first | rw [← HW.out]; refine wpList_load_row rfl 45 _ rfl w.heap.size rfl 45 (edgV a b c u v) (0, 0) _ hA Try.underlying45 rfl hi ?_)
  clear HW
  refine (toEdges_any a b c u v _).mono ?_; rintro e w1 ⟨rfl, hb1⟩
  have hA1 := hA.below hb1 hA.lt
  have hbel1 := hbel.trans (hb1.mono hbel.size)
  clear hA hbel hb1
  go_wp2_with fail
  refine (sEdgesValid_any a b c u v _).mono ?_; rintro e w2 ⟨rfl, hb2⟩
  have hA2 := hA1.below hb2 hA1.lt
  have hbel2 := hbel1.trans (hb2.mono hbel1.size)
  clear hA1 hbel1 hb2
  go_wp2_with (refine wpList_load_row rfl 45 _ rfl w.heap.size rfl 45 (edgV a b c u v) (0, 0) _ hA2 Try.underlying45 rfl hi ?_)
  refine (toEdges_any a b c u v _).mono ?_; rintro e w3 ⟨rfl, hb3⟩
  have hbel3 := hbel2.trans (hb3.mono hbel2.size)
  clear hA2 hbel2 hb3
  go_wp2_with fail
  refine (iEdgesValid_any a b c u v _).mono ?_; rintro e w4 ⟨rfl, hb4⟩
  have hbel4 := hbel3.trans (hb4.mono hbel3.size)
  have hne : (edgB a b c != edgB a b c) = false := by simp
  go_wp2_with fail
  go_ret
  exact ⟨rfl, hbel4⟩
end Go.Proofs.Ytjogdkeoadkbnaa
