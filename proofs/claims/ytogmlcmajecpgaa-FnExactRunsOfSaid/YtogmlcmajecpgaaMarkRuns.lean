/- Marking a list of runs and looking whether the marks are held. -/
import Derived.Test.YtogmlcmajecpgaaRunsOf
import Derived.Test.YtogmlcmajecpgaaSlices
namespace Go.Proofs.Ytogmlcmajecpgaa
open Go.RowKit

/-- The marks. -/
def ml (m : Int) (n : Nat) : List (Int × Int) := (List.range n).map fun i : Nat => (m + 2 * (i : Int), m + 2 * (i : Int) + 1)
theorem ml_len (m : Int) (n : Nat) : (ml m n).length = n := by simp [ml]
theorem zr_ml {m : Int} {n i : Nat} (h : i < n) : zr (ml m n) i = m + 2 * (i : Int) := by rw [zr_at (by rw [ml_len]; exact h)]; simp [ml]
theorem lv_ml {m : Int} {n i : Nat} (h : i < n) : lv (ml m n) i = m + 2 * (i : Int) + 1 := by rw [lv_at (by rw [ml_len]; exact h)]; simp [ml]
/-- Cells of n runs that may be written. -/
def Cells2 (w : World) (g off n : Nat) (A B : Nat → Int) : Prop := ∀ i, i < n → (w.cell? ⟨g, off + i * 2, none⟩ = some (.int .i64 (A i)) ∧ w.cell? ⟨g, off + i * 2 + 1, none⟩ = some (.int .i64 (B i))) ∧ w.frozen? ⟨g, off + i * 2, none⟩ = false ∧ w.frozen? ⟨g, off + i * 2 + 1, none⟩ = false
theorem Cells2.set {w : World} {g off n k : Nat} {A B A' B' : Nat → Int} (h : Cells2 w g off n A B) (hk : k < n) (x y : Int) (hA : ∀ i, i < n → A' i = if i = k then x else A i) (hB : ∀ i, i < n → B' i = if i = k then y else B i) :
    Cells2 ((w.setCell ⟨g, off + k * 2, none⟩ (.int .i64 x)).setCell ⟨g, off + k * 2 + 1, none⟩ (.int .i64 y)) g off n A' B' := by
  intro i hi
  obtain ⟨⟨c1, c2⟩, f1, f2⟩ := h i hi
  rw [hA i hi, hB i hi, World.frozen?_setCell, World.frozen?_setCell, World.frozen?_setCell, World.frozen?_setCell]
  refine ⟨?_, f1, f2⟩
  by_cases e : i = k
  · subst e
    rw [if_pos rfl, if_pos rfl]
    constructor
    · rw [World.cell?_setCell_other _ _ _ _ (fun h => by simp at h)]
      exact World.cell?_setCell_same' _ _ _ (by rw [c1]; rfl)
    · exact World.cell?_setCell_same' _ _ _ (by rw [World.cell?_setCell_other _ _ _ _ (fun h => by simp at h), c2]; rfl)
  · rw [if_neg e, if_neg e]
    constructor
    · rw [World.cell?_setCell_other _ _ _ _ (fun h => by injection h; omega), World.cell?_setCell_other _ _ _ _ (fun h => by injection h; omega)]
      exact c1
    · rw [World.cell?_setCell_other _ _ _ _ (fun h => by injection h; omega), World.cell?_setCell_other _ _ _ _ (fun h => by injection h; omega)]
      exact c2
theorem markRunS_any (v : Value) (lo hi : Nat) (l : List (Int × Int)) (m : Int) (w : World) (h : SnR lo hi w v l) (hn : l.length ≤ 1000000) (hm0 : 0 ≤ m) (hm : m ≤ 1000000) :
    Calls Try.prog 28 #[v, .int .i64 m] w fun e w' => e = .returned (.int .i64 (m + 2 * (l.length : Int))) ∧ SnR lo hi w' v (ml m l.length) ∧ Mod lo hi w w' := by
  obtain ⟨a, cap, rfl, hcap, hc⟩ := h
  obtain ⟨n, hl⟩ : ∃ n, l.length = n := ⟨_, rfl⟩
  rw [hl] at hcap hc hn ⊢
  by_cases h0 : n = 0
  · subst h0
    clear hc
    go_enter Try.func28, Try.ntmps28
    go_wp2
    go_loop [1, 5] (fun k i => i = .int .i64 0 ∧ k = .int .i64 m) (fun _ _ => 0)
    case atStart => exact ⟨rfl, rfl⟩
    case round =>
      obtain ⟨rfl, rfl⟩ := hrel
      go_wp2_with fail
      go_ret
      exact ⟨ret_int (by omega), ⟨_, _, rfl, by rw [ml_len]; exact hcap, fun h => absurd h (by rw [ml_len]; omega)⟩, Mod.refl _ _ _⟩
  · obtain ⟨g, off, rfl, h1, h2, hc⟩ := hc (by omega)
    have HC := Lib.hid (show Cells2 w g off n (zr l) (lv l) from hc); clear hc
    have Hn := Lib.hid h0; clear h0
    go_enter Try.func28, Try.ntmps28
    go_wp2
    go_loopw [1, 5] (fun m' i wr => ∃ k : Nat, k ≤ n ∧ i = .int .i64 k ∧ m' = .int .i64 (m + 2 * (k : Int)) ∧ Hid (Cells2 wr g off n (fun i => if i < k then m + 2 * (i : Int) else zr l i) (fun i => if i < k then m + 2 * (i : Int) + 1 else lv l i)) ∧ Mod lo hi w wr) (fun _ i _ => n - (intOf i).toNat)
    case atStart => exact ⟨0, by omega, rfl, by simp, fun i hi => by simpa using HC.out i hi, Mod.refl _ _ _⟩
    case round =>
      obtain ⟨k, hk, rfl, rfl, HX, hmod⟩ := hrel
      by_cases hlt : k < n
      · have c1 := (HX.out k hlt).1.1
        have c2 := (HX.out k hlt).1.2
        have f1 := (HX.out k hlt).2.1
        have f2 := (HX.out k hlt).2.2
        have hk1 : (k : Int) < n := by omega
        have hk0 : (0 : Int) ≤ k := by omega
        obtain ⟨c, hc⟩ : ∃ c : Int, m + 2 * (k : Int) = c := ⟨_, rfl⟩
        have HCc := Lib.hid hc
        have hcb : 0 ≤ c ∧ c ≤ 4000000 := by omega
        rw [hc]
        clear hc
        have ew1 : IntKind.i64.wrap (c + 1) = c + 1 := IntWalk.i64_in _ (by omega)
        have ew2 : IntKind.i64.wrap (c + 1 + 1) = c + 1 + 1 := IntWalk.i64_in _ (by omega)
        go_wp2_with fail
        go_roundw
        case rel => exact ⟨k + 1, by omega, by go_num, by have := HCc.out; go_num, Lib.hid (HX.out.set hlt c (c + 1) (fun i _ => by
            have := HCc.out
            by_cases e : i = k
            · subst e; rw [if_pos rfl, if_pos (by omega)]; omega
            · rw [if_neg e]
              by_cases e2 : i < k
              · rw [if_pos e2, if_pos (by omega)]
              · rw [if_neg e2, if_neg (by omega)]) (fun i _ => by
            have := HCc.out
            by_cases e : i = k
            · subst e; rw [if_pos rfl, if_pos (by omega)]; omega
            · rw [if_neg e]
              by_cases e2 : i < k
              · rw [if_pos e2, if_pos (by omega)]
              · rw [if_neg e2, if_neg (by omega)])), (hmod.setCell h1 h2 _ _).setCell h1 h2 _ _⟩
        case measure => simp [intOf]; omega
      · obtain rfl : k = n := by omega
        go_wp2_with fail
        go_ret
        refine ⟨rfl, ⟨_, _, by rw [ml_len], by rw [ml_len]; exact hcap, fun _ => ⟨g, off, rfl, h1, h2, fun i hi => ?_⟩⟩, hmod⟩
        rw [ml_len] at hi
        have := HX.out i hi
        rw [zr_ml hi, lv_ml hi]
        simpa [hi] using this
theorem heldRunS_any (v : Value) (n : Nat) (m : Int) (w : World) (h : SrR w.heap.size w v (ml m n)) (hn : n ≤ 1000000) (hm0 : 0 ≤ m) (hm : m ≤ 1000000) :
    Calls Try.prog 29 #[v, .int .i64 m] w fun e w' => e = .returned (.int .i64 (m + 2 * (n : Int))) ∧ Below w.heap.size w w' := by
  obtain ⟨a, cap, rfl, _, hc⟩ := h
  rw [ml_len] at hc ⊢
  have HC := Lib.hid hc; clear hc
  go_enter Try.func29, Try.ntmps29
  go_wp2
  go_loopw [1, 5] (fun m' i wr => ∃ k j : Nat, k ≤ n ∧ i = .int .i64 k ∧ m' = .int .i64 (m + 2 * (k : Int)) ∧ wr = w.drewN j) (fun _ i _ => n - (intOf i).toNat)
  case atStart => exact ⟨0, 0, by omega, rfl, by simp, rfl⟩
  case round =>
    obtain ⟨k, j, hk, rfl, rfl, rfl⟩ := hrel
    by_cases hlt : k < n
    · obtain ⟨g, off, rfl, hg, hcell⟩ := HC.out (by omega)
      have c1 := (hcell k hlt).1
      have c2 := (hcell k hlt).2
      rw [zr_ml hlt] at c1
      rw [lv_ml hlt] at c2
      have hk1 : (k : Int) < n := by omega
      have hk0 : (0 : Int) ≤ k := by omega
      obtain ⟨c, hc⟩ : ∃ c : Int, m + 2 * (k : Int) = c := ⟨_, rfl⟩
      have HCc := Lib.hid hc
      have hcb : 0 ≤ c ∧ c ≤ 4000000 := by omega
      rw [hc] at c1 c2 ⊢
      clear hc hcell HC
      have ew1 : IntKind.i64.wrap (c + 1) = c + 1 := IntWalk.i64_in _ (by omega)
      have ew2 : IntKind.i64.wrap (c + 1 + 1) = c + 1 + 1 := IntWalk.i64_in _ (by omega)
      have eq1 : (c != c) = false := by simp
      have eq2 : (c + 1 != c + 1) = false := by simp
      go_wp2_with fail
      go_roundw
      case rel => exact ⟨k + 1, _, by omega, by go_num, by have := HCc.out; go_num, rfl⟩
      case measure => simp [intOf]; omega
    · obtain rfl : k = n := by omega
      go_wp2_with fail
      go_ret
      exact ⟨rfl, below_drewN (Below.refl _ _) _⟩
end Go.Proofs.Ytogmlcmajecpgaa
