/- Contracts of the functions on bits: UnpackBits, PackBits, of the program and of the reference. -/
import Derived.Test.YthefdndbbnfaiaaAppend
import Derived.Laws.Shifts
import Derived.BigRegion
namespace Go.Proofs.Ythefdndbbnfaiaa
open Go.RowKit

/-- A slice of n numbers in new memory is handed back. -/
def Gave (k : IntKind) (n : Nat) (f : Nat → Int) (w : World) (e : Ending) (w' : World) : Prop := ∃ v, e = .returned v ∧ Sn k w.heap.size w'.heap.size w' v n f ∧ Below w.heap.size w w'
theorem new_cell (w : World) (v : Value) (t : TypeId) : (w.alloc (.cells #[v] t)).cell? ⟨w.heap.size, 0, none⟩ = some v := by rw [cell_of_row _ _ 0 _ _ _ (heap_alloc_new w _)]; rfl
theorem Gave.of_made {n : Nat} {b : Nat → Int} {w w' : World} {e : Ending} (g : Nat) (he : e = .returned (.slice (some ⟨g, 0, none⟩) n n)) (h1 : w.heap.size ≤ g) (h2 : Blk w' g n 3 b) (h3 : Below w.heap.size w w') : Gave .i64 n b w e w' :=
  ⟨_, he, Sn.of_blk h2 h1 h2.lt, h3⟩
theorem Sn.empty (k : IntKind) (lo hi : Nat) (w : World) (a : Option Addr) (c : Nat) (f : Nat → Int) : Sn k lo hi w (.slice a 0 c) 0 f := ⟨_, _, rfl, Nat.zero_le _, fun h => absurd h (by omega)⟩

/-- Bit k of a list of bytes, the highest of each byte first. -/
def bitB (x : Int) (k : Nat) : Int := x / 2 ^ (7 - k % 8) % 2
def unpB (b : Nat → Int) (k : Nat) : Int := bitB (b (k / 8)) k
def unpN (n : Int) (len : Nat) : Nat := if 0 ≤ n ∧ n ≤ 8 * len then n.toNat else 0
theorem bitB_bd (x : Int) (k : Nat) : 0 ≤ bitB x k ∧ bitB x k ≤ 1 := by unfold bitB; omega
theorem and1_u8 (y : Int) (h0 : 0 ≤ y) (h1 : y ≤ 255) : bits .and .u8 y 1 = y % 2 := by
  obtain ⟨n, rfl⟩ := Int.eq_ofNat_of_zero_le h0
  have : ∀ n : Nat, n < 256 → bits .and .u8 (n : Int) 1 = (n : Int) % 2 := by decide +kernel
  exact this n (by omega)
theorem div_bd (x : Int) (t : Nat) (h0 : 0 ≤ x) (h1 : x ≤ 255) : 0 ≤ x / 2 ^ t ∧ x / 2 ^ t ≤ 255 := by
  have hp : (0 : Int) < 2 ^ t := Int.pow_pos (by omega)
  refine ⟨Int.ediv_nonneg h0 (by omega), ?_⟩
  have := Int.ediv_le_self (b := 2 ^ t) h0
  omega

theorem iUnpackBits_any (v : Value) (len : Nat) (b : Nat → Int) (n : Int) (w : World) (h : Sr .u8 w.heap.size w v len b) (hb : ∀ i, i < len → 0 ≤ b i ∧ b i ≤ 255) (hl : len ≤ 1048576) :
    Calls Try.prog 10 #[v, .int .i64 n] w (Gave .i64 (unpN n len) (unpB b) w) := by
  obtain ⟨a, cap, rfl, _, hc⟩ := h
  have HC := Lib.hid hc; have HB := Lib.hid hb; clear hc hb
  by_cases h1 : n < 0
  · have HN := Lib.hid (show unpN n len = 0 by unfold unpN; rw [if_neg (by omega)])
    go_enter Try.func10, Try.ntmps10
    go_wp2
    go_ret
    rw [HN.out]
    exact ⟨_, rfl, Sn.empty _ _ _ _ _ _ _, Below.refl _ _⟩
  · by_cases h2 : 8 * (len : Int) < n
    · have HN := Lib.hid (show unpN n len = 0 by unfold unpN; rw [if_neg (by omega)])
      go_enter Try.func10, Try.ntmps10
      go_wp2
      go_ret
      rw [HN.out]
      exact ⟨_, rfl, Sn.empty _ _ _ _ _ _ _, Below.refl _ _⟩
    · obtain ⟨n, rfl⟩ := Int.eq_ofNat_of_zero_le (a := n) (by omega)
      have HN := Lib.hid (show unpN n len = n by unfold unpN; rw [if_pos (by omega)]; simp)
      rw [HN.out]
      clear HN
      have hn : n ≤ 8 * len := by omega
      clear h1 h2
      go_enter Try.func10, Try.ntmps10
      go_wp2_with (refine makeInts n rfl (by omega) rfl rfl rfl rfl ?_)
      go_loopw [20] (fun i wr => ∃ k : Nat, k ≤ n ∧ i = .int .i64 k ∧ Blk wr w.heap.size n 3 (fun i => if i < k then unpB b i else 0) ∧ Below w.heap.size w wr) (fun i _ => n - (intOf i).toNat)
      case atStart => exact ⟨0, by omega, rfl, Blk.new' rfl, (Below.refl _ _).alloc (Nat.le_refl _) _⟩
      case round =>
        obtain ⟨k, hk, rfl, hX, hbel⟩ := hrel
        by_cases hlt : k < n
        · obtain ⟨g, off, rfl, hg, hcell⟩ := HC.out (by omega)
          have c1 := (hbel.cell (p := ⟨g, off + k / 8, none⟩) hg).trans (hcell (k / 8) (by omega))
          have hb := HB.out (k / 8) (by omega)
          have hd := div_bd (b (k / 8)) (7 - k % 8) hb.1 hb.2
          have ha := Lib.hid (and1_u8 _ hd.1 hd.2)
          have c2 := hX.cell k hlt
          have f2 := hX.frozen k
          clear hcell HC
          go_wp2_with fail
          rw [ha.out, IntWalk.wrap64_in _ (by omega)]
          go_roundw
          case rel => exact ⟨k + 1, by omega, by go_num, (hX.set k _).congr (upto_step (c := unpB b) n), hbel.setCell (by simp) _⟩
          case measure => simp [intOf]; omega
        · have hR : Blk wr w.heap.size n 3 (unpB b) := hX.congr (fun j hj => by rw [if_pos (by omega)])
          go_wp2_with fail
          go_ret
          exact Gave.of_made _ rfl (Nat.le_refl _) hR hbel

theorem sUnpackBits_any (v : Value) (len : Nat) (b : Nat → Int) (n : Int) (w : World) (h : Sr .u8 w.heap.size w v len b) (hb : ∀ i, i < len → 0 ≤ b i ∧ b i ≤ 255) (hl : len ≤ 1048576) :
    Calls Try.prog 8 #[v, .int .i64 n] w (Gave .i64 (unpN n len) (unpB b) w) := by
  obtain ⟨a, cap, rfl, _, hc⟩ := h
  have HC := Lib.hid hc; have HB := Lib.hid hb; clear hc hb
  by_cases h1 : n < 0 ∨ 8 * (len : Int) < n
  · have HN := Lib.hid (show unpN n len = 0 by unfold unpN; rw [if_neg (by omega)])
    have H1 := Lib.hid h1; clear h1
    go_enter Try.func8, Try.ntmps8
    go_wp2_with fail
    refine (l1In_no _ _ _ _ H1.out).mono ?_; rintro e _ ⟨rfl, rfl⟩
    go_wp2_with fail
    go_ret
    rw [HN.out]
    exact ⟨_, rfl, Sn.empty _ _ _ _ _ _ _, (Below.refl _ _).alloc (Nat.le_refl _) _⟩
  · obtain ⟨n, rfl⟩ := Int.eq_ofNat_of_zero_le (a := n) (by omega)
    have HN := Lib.hid (show unpN n len = n by unfold unpN; rw [if_pos (by omega)]; simp)
    rw [HN.out]
    clear HN
    have hn : n ≤ 8 * len := by omega
    clear h1
    go_enter Try.func8, Try.ntmps8
    go_wp2_with fail
    refine (l1In_yes _ _ _ _ (by omega) (by omega)).mono ?_; rintro e _ ⟨rfl, rfl⟩
    go_wp2_with fail
    go_loopw [5, 6] (fun v i wr => ∃ k : Nat, k ≤ n ∧ i = .int .i64 k ∧ OwnK .i64 3 w.heap.size wr v k (unpB b) ∧ Below w.heap.size w wr) (fun _ i _ => n - (intOf i).toNat)
    case atStart => exact ⟨0, by omega, rfl, OwnK.made (Nat.le_refl _) _, (Below.refl _ _).alloc (Nat.le_refl _) _⟩
    case round =>
      obtain ⟨k, hk, rfl, hX, hbel⟩ := hrel
      by_cases hlt : k < n
      · obtain ⟨g, off, rfl, hg, hcell⟩ := HC.out (by omega)
        have c1 := (hbel.cell (p := ⟨g, off + k / 8, none⟩) hg).trans (hcell (k / 8) (by omega))
        have hb := HB.out (k / 8) (by omega)
        have hd := div_bd (b (k / 8)) (7 - k % 8) hb.1 hb.2
        clear hcell HC
        go_wp2_with (at_builtin; refine appendInt w.heap.size _ wr.heap.size (hX.alloc _) (new_cell _ _ _) (by omega) (by have := hbel.size; simp; omega) rfl rfl rfl rfl ?_; intro v' w1 hX1 hgrow hat)
        have hB1 := Lib.hid (grown_below (hbel.alloc hbel.size _) hgrow (hX.alloc _) (Nat.le_refl _) (by have := hbel.size; simp; omega))
        have hX2 := Lib.hid (hX1.congr (g := unpB b) (fun i hi => by
          by_cases e : i = k
          · subst e; rw [if_pos rfl]; rfl
          · rw [if_neg e]))
        clear hX1 hgrow hat
        go_wp2_with fail
        go_roundw
        case rel => exact ⟨k + 1, by omega, by go_num, hX2.out, hB1.out⟩
        case measure => simp [intOf]; omega
      · obtain rfl : k = n := by omega
        go_wp2_with fail
        go_ret
        exact ⟨_, rfl, hX.sn, hbel⟩
end Go.Proofs.Ythefdndbbnfaiaa
