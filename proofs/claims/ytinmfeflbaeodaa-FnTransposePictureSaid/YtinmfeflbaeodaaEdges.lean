/- Edges: how they lie in memory, their copying, whether they are valid. -/
import Derived.Test.YtinmfeflbaeodaaPic
import Derived.Test.YtinmfeflbaeodaaOpenPic
import Derived.Deep.Cut
namespace Go.Proofs.Ytinmfeflbaeodaa
open Go.RowKit

theorem info4 (b : Nat → Int) : (Try.prog.info? 42).map (·.size) = some (VN 4 b).size := by rw [VN_size]; kernel_rfl
theorem zero4 : VN 4 (fun _ => 0) = #[.int .i64 0, .int .i64 0, .int .i64 0, .int .i64 0] := by kernel_rfl
/-- Block g holds eleven cells of edges. -/
def EdgB (w : World) (g : Nat) (t : TypeId) (cs : Array Value) : Prop := w.heap[g]? = some (.cells cs t (0, 0))
theorem EdgB.lt {w : World} {g : Nat} {t : TypeId} {cs : Array Value} (h : EdgB w g t cs) : g < w.heap.size := (Array.getElem?_eq_some_iff.1 h).1
theorem EdgB.cell {w : World} {g : Nat} {t : TypeId} {cs : Array Value} (h : EdgB w g t cs) (k : Nat) : w.cell? ⟨g, k, none⟩ = cs[k]? := cell_of_row w g k _ _ _ h
theorem EdgB.fr {w : World} {g : Nat} {t : TypeId} {cs : Array Value} (h : EdgB w g t cs) (k : Nat) : w.frozen? ⟨g, k, none⟩ = false := frozen_of_row w g k _ _ h
theorem EdgB.below {B : Nat} {w w' : World} {g : Nat} {t : TypeId} {cs : Array Value} (h : EdgB w g t cs) (hb : Below B w w') (hB : g < B) : EdgB w' g t cs := (hb.block g hB).trans h
theorem EdgB.alloc {w : World} {g : Nat} {t : TypeId} {cs : Array Value} (h : EdgB w g t cs) (o : Obj) : EdgB (w.alloc o) g t cs := by
  unfold EdgB
  rw [Below.heap_alloc w o g h.lt]; exact h
theorem EdgB.new' {w : World} {g : Nat} {t : TypeId} {cs : Array Value} (hg : g = w.heap.size) : EdgB (w.alloc (.cells cs t)) g t cs := by subst hg; exact heap_alloc_new w _
theorem EdgB.set {w : World} {g : Nat} {t : TypeId} {cs : Array Value} (h : EdgB w g t cs) (k : Nat) (v : Value) : EdgB (w.setCell ⟨g, k, none⟩ v) g t (cs.setIfInBounds k v) := heap_setCell_same w g k _ _ _ h
theorem EdgB.other {w : World} {g : Nat} {t : TypeId} {cs : Array Value} (h : EdgB w g t cs) {g' k : Nat} {v : Value} (ha : g ≠ g') : EdgB (w.setCell ⟨g', k, none⟩ v) g t cs := by
  unfold EdgB
  rw [heap_setCell_other w ⟨g', k, none⟩ g v ha]; exact h
theorem EdgB.cast {w : World} {g : Nat} {t : TypeId} {cs cs' : Array Value} (h : EdgB w g t cs) (e : cs = cs') : EdgB w g t cs' := e ▸ h
theorem l1In_any (n lo hi : Int) (w : World) : Calls Try.prog 45 #[.int .i64 n, .int .i64 lo, .int .i64 hi] w fun e w' => e = .returned (.bool (decide (lo ≤ n ∧ n ≤ hi))) ∧ w = w' := by
  by_cases h : lo ≤ n ∧ n ≤ hi
  · rw [decide_eq_true h]; exact l1In_yes _ _ _ _ h.1 h.2
  · rw [decide_eq_false h]; exact l1In_no _ _ _ _ (by omega)
def edgB (a b : Nat → Int) (c : Int) : Bool := smpB a 4 && smpB b 4 && decide (0 ≤ c ∧ c ≤ 255)
theorem iEdgesValid_any (a b : Nat → Int) (c : Int) (u v : Bool) (w : World) :
    Calls Try.prog 33 #[.agg (edgV a b c u v)] w fun e w' => e = .returned (.bool (edgB a b c)) ∧ Below w.heap.size w w' := by
  obtain ⟨w0, hw0⟩ : ∃ w0, w0 = w.alloc (.cells (edgV a b c u v) 44) := ⟨_, rfl⟩
  have hA : EdgB w0 w.heap.size 44 (edgV a b c u v) := by rw [hw0]; exact EdgB.new' rfl
  have hbel : Below w.heap.size w w0 := by rw [hw0]; exact (Below.refl _ _).alloc (Nat.le_refl _) _
  have h1 : Hid (Sr .i64 w0.heap.size w0 (.slice (some ⟨w.heap.size, 0, none⟩) 4 4) 4 a) := ⟨_, _, rfl, Nat.le_refl _, fun _ => ⟨_, 0, rfl, hA.lt, fun i hi => by
    rw [hA.cell]
    match i, hi with
    | 0, _ => rfl
    | 1, _ => rfl
    | 2, _ => rfl
    | 3, _ => rfl⟩⟩
  have h2 : Hid (Sr .i64 w0.heap.size w0 (.slice (some ⟨w.heap.size, 4, none⟩) 4 4) 4 b) := ⟨_, _, rfl, Nat.le_refl _, fun _ => ⟨_, 4, rfl, hA.lt, fun i hi => by
    rw [hA.cell]
    match i, hi with
    | 0, _ => rfl
    | 1, _ => rfl
    | 2, _ => rfl
    | 3, _ => rfl⟩⟩
  have a8 := hA.cell 8
  simp [edgV] at a8
  have HW := Lib.hid hw0; clear hw0
  unfold edgV at HW ⊢
  go_enter Try.func33, Try.ntmps33
  go_wp2_with fail
  rw [← HW.out]
  clear HW
  refine (samplesIn_sr _ 4 _ a _ h1.out (by omega)).mono ?_; rintro e w' ⟨rfl, rfl⟩
  by_cases q1 : smpB a 4 = true
  · rw [q1]
    go_wp2_with fail
    refine (samplesIn_sr _ 4 _ b _ h2.out (by omega)).mono ?_; rintro e w' ⟨rfl, rfl⟩
    by_cases q2 : smpB b 4 = true
    · rw [q2]
      go_wp2_with fail
      by_cases q3 : 0 ≤ c ∧ c ≤ 255
      · refine (sampleValid_yes _ _ q3.1 q3.2).mono ?_; rintro e w' ⟨rfl, rfl⟩
        go_wp2_with fail
        go_ret
        exact ⟨by unfold edgB; rw [q1, q2, decide_eq_true q3]; rfl, hbel⟩
      · refine (sampleValid_no _ _ (by omega)).mono ?_; rintro e w' ⟨rfl, rfl⟩
        go_wp2_with fail
        go_ret
        exact ⟨by unfold edgB; rw [q1, q2, decide_eq_false q3]; rfl, hbel⟩
    · have q2 : smpB b 4 = false := by simpa using q2
      rw [q2]
      go_wp2_with fail
      go_ret
      exact ⟨by unfold edgB; rw [q1, q2]; rfl, hbel⟩
  · have q1 : smpB a 4 = false := by simpa using q1
    rw [q1]
    go_wp2_with fail
    go_ret
    exact ⟨by unfold edgB; rw [q1]; rfl, hbel⟩
theorem smpB_step (a : Nat → Int) (k : Nat) : smpB a (k + 1) = (smpB a k && decide (0 ≤ a k ∧ a k ≤ 255)) := by
  unfold smpB; rw [List.range_succ, List.all_append]; simp
theorem sEdgesValid_any (a b : Nat → Int) (c : Int) (u v : Bool) (w : World) :
    Calls Try.prog 34 #[.agg (edgV a b c u v)] w fun e w' => e = .returned (.bool (edgB a b c)) ∧ Below w.heap.size w w' := by
  obtain ⟨w0, hw0⟩ : ∃ w0, w0 = w.alloc (.cells (edgV a b c u v) 44) := ⟨_, rfl⟩
  have hA : EdgB w0 w.heap.size 44 (edgV a b c u v) := by rw [hw0]; exact EdgB.new' rfl
  have hbel : Below w.heap.size w w0 := by rw [hw0]; exact (Below.refl _ _).alloc (Nat.le_refl _) _
  have h1 : Hid (∀ i, i < 4 → w0.cell? ⟨w.heap.size, i, none⟩ = some (.int .i64 (a i))) := fun i hi => by
    rw [hA.cell]
    match i, hi with
    | 0, _ => rfl
    | 1, _ => rfl
    | 2, _ => rfl
    | 3, _ => rfl
  have h2 : Hid (∀ i, i < 4 → w0.cell? ⟨w.heap.size, 4 + i, none⟩ = some (.int .i64 (b i))) := fun i hi => by
    rw [hA.cell]
    match i, hi with
    | 0, _ => rfl
    | 1, _ => rfl
    | 2, _ => rfl
    | 3, _ => rfl
  have a8 := hA.cell 8
  simp [edgV] at a8
  have HW := Lib.hid hw0; clear hw0
  unfold edgV at HW ⊢
  go_enter Try.func34, Try.ntmps34
  go_wp2_with fail
  rw [← HW.out]
  clear HW
  refine (l1In_any _ _ _ _).mono ?_; rintro e w' ⟨rfl, rfl⟩
  go_wp2_with fail
  go_loop [3, 4] (fun ok i => ∃ k : Nat, k ≤ 4 ∧ i = .int .i64 k ∧ ok = .bool (decide (0 ≤ c ∧ c ≤ 255) && smpB a k && smpB b k)) (fun _ i => 4 - (intOf i).toNat)
  case atStart => exact ⟨0, by omega, rfl, by simp [smpB]⟩
  case round =>
    obtain ⟨k, hk, rfl, rfl⟩ := hrel
    by_cases hlt : k < 4
    · have hlt' : (k : Int) < 4 := by omega
      have hk0 : (0 : Int) ≤ k := by omega
      have c1 := h1.out k hlt
      have c2 := h2.out k hlt
      have s1 := smpB_step a k
      have s2 := smpB_step b k
      have HS1 := Lib.hid s1; have HS2 := Lib.hid s2
      clear s1 s2
      obtain ⟨p, hp⟩ : ∃ p, (decide (0 ≤ c ∧ c ≤ 255) && smpB a k && smpB b k) = p := ⟨_, rfl⟩
      have HP := Lib.hid hp
      rw [hp]
      clear hp
      cases p
      · go_wp2_with fail
        go_round
        case rel => exact ⟨k + 1, by omega, by go_num, by rw [HS1.out, HS2.out]; have := HP.out; revert this; cases decide (0 ≤ c ∧ c ≤ 255) <;> cases smpB a k <;> cases smpB b k <;> simp⟩
        case measure => simp [intOf]; omega
      · go_wp2_with fail
        refine (l1In_any _ _ _ _).mono ?_; rintro e w' ⟨rfl, rfl⟩
        obtain ⟨p1, hp1⟩ : ∃ p, decide (0 ≤ a k ∧ a k ≤ 255) = p := ⟨_, rfl⟩
        rw [hp1]
        have HP1 := Lib.hid hp1; clear hp1
        cases p1
        · go_wp2_with fail
          go_round
          case rel => exact ⟨k + 1, by omega, by go_num, by rw [HS1.out, HS2.out, HP1.out]; simp⟩
          case measure => simp [intOf]; omega
        · go_wp2_with fail
          refine (l1In_any _ _ _ _).mono ?_; rintro e w' ⟨rfl, rfl⟩
          go_wp2_with fail
          go_round
          case rel => exact ⟨k + 1, by omega, by go_num, by rw [HS1.out, HS2.out, HP1.out]; have := HP.out; revert this; cases decide (0 ≤ c ∧ c ≤ 255) <;> cases smpB a k <;> cases smpB b k <;> simp⟩
          case measure => simp [intOf]; omega
    · obtain rfl : k = 4 := by omega
      have hF : (decide (0 ≤ c ∧ c ≤ 255) && smpB a 4 && smpB b 4) = edgB a b c := by unfold edgB; rw [Bool.and_assoc, Bool.and_comm]
      obtain ⟨q, hq⟩ : ∃ q, edgB a b c = q := ⟨_, rfl⟩
      rw [hF, hq]
      have HQ := Lib.hid hq
      clear hF hq
      go_wp2_with fail
      go_ret
      exact ⟨by rw [HQ.out]; rfl, hbel⟩
end Go.Proofs.Ytinmfeflbaeodaa
