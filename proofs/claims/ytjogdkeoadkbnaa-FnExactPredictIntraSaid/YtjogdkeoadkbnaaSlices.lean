/- Slices of whole numbers in memory: how they lie, and the functions of the exact laws that copy, compare, mark and look at them. -/
import Derived.Test.YtjogdkeoadkbnaaPicture
import Derived.Laws.AppendOwn
import Derived.Maps.AppendAt
namespace Go.Proofs.Ytjogdkeoadkbnaa
open Go.RowKit

/-- v is a slice of n whole numbers of kind k, b of the index, in a block below hi. -/
def Sr (k : IntKind) (hi : Nat) (w : World) (v : Value) (n : Nat) (b : Nat → Int) : Prop :=
  ∃ a cap, v = .slice a n cap ∧ n ≤ cap ∧ (0 < n → ∃ g off, a = some ⟨g, off, none⟩ ∧ g < hi ∧ ∀ i, i < n → w.cell? ⟨g, off + i, none⟩ = some (.int k (b i)))
theorem Sr.kept {k : IntKind} {hi : Nat} {w w' : World} {v : Value} {n : Nat} {b : Nat → Int} (h : Sr k hi w v n b) (hk : ∀ g, g < hi → w'.heap[g]? = w.heap[g]?) : Sr k hi w' v n b := by
  obtain ⟨a, cap, hv, hn, h⟩ := h
  refine ⟨a, cap, hv, hn, fun h0 => ?_⟩
  obtain ⟨g, off, ha, hg, hc⟩ := h h0
  exact ⟨g, off, ha, hg, fun i hi => (World.cell?_of_block (w := w) (hk g hg)).trans (hc i hi)⟩
theorem Sr.below {k : IntKind} {hi C : Nat} {w w' : World} {v : Value} {n : Nat} {b : Nat → Int} (h : Sr k hi w v n b) (hb : Below C w w') (hC : hi ≤ C) : Sr k hi w' v n b := h.kept fun g hg => hb.block g (by omega)
theorem Sr.mono {k : IntKind} {hi hi' : Nat} {w : World} {v : Value} {n : Nat} {b : Nat → Int} (h : Sr k hi w v n b) (hh : hi ≤ hi') : Sr k hi' w v n b := by
  obtain ⟨a, cap, hv, hn, h⟩ := h
  refine ⟨a, cap, hv, hn, fun h0 => ?_⟩
  obtain ⟨g, off, ha, hg, hc⟩ := h h0
  exact ⟨g, off, ha, by omega, hc⟩
theorem Sr.congr {k : IntKind} {hi : Nat} {w : World} {v : Value} {n : Nat} {b c : Nat → Int} (h : Sr k hi w v n b) (hc : ∀ i, i < n → b i = c i) : Sr k hi w v n c := by
  obtain ⟨a, cap, hv, hn, h⟩ := h
  refine ⟨a, cap, hv, hn, fun h0 => ?_⟩
  obtain ⟨g, off, ha, hg, hh⟩ := h h0
  exact ⟨g, off, ha, hg, fun i hi => by rw [← hc i hi]; exact hh i hi⟩
theorem Sr.alloc {k : IntKind} {hi : Nat} {w : World} {v : Value} {n : Nat} {b : Nat → Int} (h : Sr k hi w v n b) (hh : hi ≤ w.heap.size) (o : Obj) : Sr k hi (w.alloc o) v n b := h.kept fun g hg => Below.heap_alloc w o g (by omega)
theorem Sr.setCell {k : IntKind} {hi : Nat} {w : World} {v : Value} {n : Nat} {b : Nat → Int} (h : Sr k hi w v n b) {p : Addr} (hp : hi ≤ p.block) (u : Value) : Sr k hi (w.setCell p u) v n b := h.kept fun g hg => heap_setCell_other w p g u (by omega)
theorem Sr.drewN {k : IntKind} {hi : Nat} {w : World} {v : Value} {n : Nat} {b : Nat → Int} (h : Sr k hi w v n b) (m : Nat) : Sr k hi (w.drewN m) v n b := h

/-- v is a slice of n whole numbers of kind k that may be written, b of the index, in a block from lo on and below hi. -/
def Sn (k : IntKind) (lo hi : Nat) (w : World) (v : Value) (n : Nat) (b : Nat → Int) : Prop :=
  ∃ a cap, v = .slice a n cap ∧ n ≤ cap ∧ (0 < n → ∃ g off, a = some ⟨g, off, none⟩ ∧ lo ≤ g ∧ g < hi ∧ ∀ i, i < n → w.cell? ⟨g, off + i, none⟩ = some (.int k (b i)) ∧ w.frozen? ⟨g, off + i, none⟩ = false)
theorem Sn.kept {k : IntKind} {lo hi : Nat} {w w' : World} {v : Value} {n : Nat} {b : Nat → Int} (h : Sn k lo hi w v n b) (hk : ∀ g, lo ≤ g → g < hi → w'.heap[g]? = w.heap[g]?) : Sn k lo hi w' v n b := by
  obtain ⟨a, cap, hv, hn, h⟩ := h
  refine ⟨a, cap, hv, hn, fun h0 => ?_⟩
  obtain ⟨g, off, ha, h1, h2, hc⟩ := h h0
  exact ⟨g, off, ha, h1, h2, fun i hi => ⟨(World.cell?_of_block (w := w) (hk g h1 h2)).trans (hc i hi).1, (World.frozen?_of_block (w := w) (hk g h1 h2)).trans (hc i hi).2⟩⟩
theorem Sn.below {k : IntKind} {lo hi C : Nat} {w w' : World} {v : Value} {n : Nat} {b : Nat → Int} (h : Sn k lo hi w v n b) (hb : Below C w w') (hC : hi ≤ C) : Sn k lo hi w' v n b := h.kept fun g _ hg => hb.block g (by omega)
theorem Sn.mono {k : IntKind} {lo hi lo' hi' : Nat} {w : World} {v : Value} {n : Nat} {b : Nat → Int} (h : Sn k lo hi w v n b) (h1 : lo' ≤ lo) (h2 : hi ≤ hi') : Sn k lo' hi' w v n b := by
  obtain ⟨a, cap, hv, hn, h⟩ := h
  refine ⟨a, cap, hv, hn, fun h0 => ?_⟩
  obtain ⟨g, off, ha, a1, a2, hc⟩ := h h0
  exact ⟨g, off, ha, by omega, by omega, hc⟩
theorem Sn.congr {k : IntKind} {lo hi : Nat} {w : World} {v : Value} {n : Nat} {b c : Nat → Int} (h : Sn k lo hi w v n b) (hc : ∀ i, i < n → b i = c i) : Sn k lo hi w v n c := by
  obtain ⟨a, cap, hv, hn, h⟩ := h
  refine ⟨a, cap, hv, hn, fun h0 => ?_⟩
  obtain ⟨g, off, ha, a1, a2, hh⟩ := h h0
  exact ⟨g, off, ha, a1, a2, fun i hi => by rw [← hc i hi]; exact hh i hi⟩
theorem Sn.sr {k : IntKind} {lo hi : Nat} {w : World} {v : Value} {n : Nat} {b : Nat → Int} (h : Sn k lo hi w v n b) : Sr k hi w v n b := by
  obtain ⟨a, cap, hv, hn, h⟩ := h
  refine ⟨a, cap, hv, hn, fun h0 => ?_⟩
  obtain ⟨g, off, ha, a1, a2, hh⟩ := h h0
  exact ⟨g, off, ha, a2, fun i hi => (hh i hi).1⟩
theorem Sn.of_blk {lo hi : Nat} {w : World} {g n : Nat} {t : TypeId} {b : Nat → Int} (h : Blk w g n t b) (h1 : lo ≤ g) (h2 : g < hi) : Sn .i64 lo hi w (.slice (some ⟨g, 0, none⟩) n n) n b :=
  ⟨_, n, rfl, Nat.le_refl _, fun _ => ⟨g, 0, rfl, h1, h2, fun i hi => by rw [Nat.zero_add]; exact ⟨h.cell i hi, h.frozen i⟩⟩⟩
/-- Outside the blocks from lo on and below hi nothing has turned; no block is new. -/
structure Mod (lo hi : Nat) (w w' : World) : Prop where
  os : w'.os = w.os
  tape : w'.tape = w.tape
  output : w'.output = w.output
  size : w'.heap.size = w.heap.size
  block : ∀ k, k < lo ∨ hi ≤ k → w'.heap[k]? = w.heap[k]?
theorem Mod.refl (lo hi : Nat) (w : World) : Mod lo hi w w := ⟨rfl, rfl, rfl, rfl, fun _ _ => rfl⟩
theorem Mod.trans {lo hi : Nat} {a b c : World} (h : Mod lo hi a b) (k : Mod lo hi b c) : Mod lo hi a c :=
  ⟨k.os.trans h.os, k.tape.trans h.tape, k.output.trans h.output, k.size.trans h.size, fun i hi => (k.block i hi).trans (h.block i hi)⟩
theorem Mod.drewN {lo hi : Nat} {a w : World} (h : Mod lo hi a w) (n : Nat) : Mod lo hi a (w.drewN n) := ⟨h.os, h.tape, h.output, h.size, h.block⟩
theorem Mod.setCell {lo hi : Nat} {a w : World} (h : Mod lo hi a w) {g : Nat} (h1 : lo ≤ g) (h2 : g < hi) (k : Nat) (v : Value) : Mod lo hi a (w.setCell ⟨g, k, none⟩ v) :=
  h.trans ⟨rfl, rfl, rfl, by simp [World.setCell], fun i hi => heap_setCell_other w ⟨g, k, none⟩ i v (by show i ≠ g; omega)⟩
theorem Mod.below {lo hi B : Nat} {w w' : World} (h : Mod lo hi w w') (hB : B ≤ lo) : Below B w w' := ⟨h.os, h.tape, h.output, by rw [h.size]; exact Nat.le_refl _, fun k hk => h.block k (by omega)⟩
theorem Sn.mod {k : IntKind} {lo hi lo' hi' : Nat} {w w' : World} {v : Value} {n : Nat} {b : Nat → Int} (h : Sn k lo hi w v n b) (hm : Mod lo' hi' w w') (hd : hi ≤ lo' ∨ hi' ≤ lo) : Sn k lo hi w' v n b := h.kept fun g h1 h2 => hm.block g (by omega)
theorem Sr.mod {k : IntKind} {hi lo' hi' : Nat} {w w' : World} {v : Value} {n : Nat} {b : Nat → Int} (h : Sr k hi w v n b) (hm : Mod lo' hi' w w') (hd : hi ≤ lo') : Sr k hi w' v n b := h.kept fun g h1 => hm.block g (by omega)

/-- The cells of a slice of n bytes. -/
def VB (n : Nat) (b : Nat → Int) : Array Value := ((List.range n).map fun i => Value.int .u8 (b i)).toArray
theorem VB_size (n : Nat) (b : Nat → Int) : (VB n b).size = n := by simp [VB]
theorem VB_get (n : Nat) (b : Nat → Int) (k : Nat) (h : k < n) : (VB n b)[k]? = some (.int .u8 (b k)) := by simp [VB, h]
theorem VB_congr {n : Nat} {b c : Nat → Int} (h : ∀ k, k < n → b k = c k) : VB n b = VB n c := by
  unfold VB
  congr 1
  apply List.map_congr_left
  intro i hi
  rw [h i (by simpa using hi)]
theorem VB_set (n : Nat) (b : Nat → Int) (k : Nat) (v : Int) : (VB n b).setIfInBounds k (.int .u8 v) = VB n (fun i => if i = k then v else b i) := by
  apply Array.ext
  · simp [VB]
  · intro i h1 h2
    simp only [VB, List.setIfInBounds_toArray, List.getElem_toArray, List.getElem_set, List.getElem_map, List.getElem_range]
    by_cases h : k = i
    · simp [h]
    · simp [h, Ne.symm h]
/-- Block g holds n bytes; it may be written. -/
def BlkB (w : World) (g n : Nat) (t : TypeId) (b : Nat → Int) : Prop := w.heap[g]? = some (.cells (VB n b) t (0, 0))
theorem BlkB.lt {w : World} {g n : Nat} {t : TypeId} {b : Nat → Int} (h : BlkB w g n t b) : g < w.heap.size := (Array.getElem?_eq_some_iff.1 h).1
theorem BlkB.cell {w : World} {g n : Nat} {t : TypeId} {b : Nat → Int} (h : BlkB w g n t b) (k : Nat) (hk : k < n) : w.cell? ⟨g, k, none⟩ = some (.int .u8 (b k)) := by
  rw [cell_of_row w g k _ _ _ h, VB_get n b k hk]
theorem BlkB.frozen {w : World} {g n : Nat} {t : TypeId} {b : Nat → Int} (h : BlkB w g n t b) (k : Nat) : w.frozen? ⟨g, k, none⟩ = false := frozen_of_row w g k _ _ h
theorem BlkB.set {w : World} {g n : Nat} {t : TypeId} {b : Nat → Int} (h : BlkB w g n t b) (k : Nat) (v : Int) : BlkB (w.setCell ⟨g, k, none⟩ (.int .u8 v)) g n t (fun i => if i = k then v else b i) := by
  unfold BlkB
  rw [heap_setCell_same w g k _ _ _ h, VB_set]
theorem BlkB.new' {w : World} {g n : Nat} {t : TypeId} {b : Nat → Int} (hg : g = w.heap.size) : BlkB (w.alloc (.cells (VB n b) t)) g n t b := by subst hg; exact heap_alloc_new w _
theorem BlkB.below {B : Nat} {w w' : World} {g n : Nat} {t : TypeId} {b : Nat → Int} (h : BlkB w g n t b) (hb : Below B w w') (hB : g < B) : BlkB w' g n t b := (hb.block g hB).trans h
theorem BlkB.congr {w : World} {g n : Nat} {t : TypeId} {b c : Nat → Int} (h : BlkB w g n t b) (hc : ∀ k, k < n → b k = c k) : BlkB w g n t c := by
  unfold BlkB at h ⊢; rw [h, VB_congr hc]
theorem BlkB.drewN {w : World} {g n : Nat} {t : TypeId} {b : Nat → Int} (h : BlkB w g n t b) (k : Nat) : BlkB (w.drewN k) g n t b := h
theorem Sn.of_blkB {lo hi : Nat} {w : World} {g n : Nat} {t : TypeId} {b : Nat → Int} (h : BlkB w g n t b) (h1 : lo ≤ g) (h2 : g < hi) : Sn .u8 lo hi w (.slice (some ⟨g, 0, none⟩) n n) n b :=
  ⟨_, n, rfl, Nat.le_refl _, fun _ => ⟨g, 0, rfl, h1, h2, fun i hi => by rw [Nat.zero_add]; exact ⟨h.cell i hi, h.frozen i⟩⟩⟩
theorem upto_step {b c : Nat → Int} {k : Nat} (n : Nat) : ∀ j, j < n → (if j = k then c k else if j < k then c j else b j) = (if j < k + 1 then c j else b j) := fun j _ => by
  by_cases e : j = k
  · subst e; rw [if_pos rfl, if_pos (by omega)]
  · by_cases e2 : j < k
    · rw [if_neg e, if_pos e2, if_pos (by omega)]
    · rw [if_neg e, if_neg e2, if_neg (by omega)]

/-- What toIntS leaves: a slice in a new block with the same numbers. -/
def MadeInt (n : Nat) (b : Nat → Int) (w : World) (e : Ending) (w' : World) : Prop := ∃ g, e = .returned (.slice (some ⟨g, 0, none⟩) n n) ∧ w.heap.size ≤ g ∧ Blk w' g n 3 b ∧ Below w.heap.size w w'
theorem MadeInt.sn {n : Nat} {b : Nat → Int} {w w' : World} {g : Nat} (h1 : w.heap.size ≤ g) (h2 : Blk w' g n 3 b) : Sn .i64 w.heap.size w'.heap.size w' (.slice (some ⟨g, 0, none⟩) n n) n b := Sn.of_blk h2 h1 h2.lt
theorem toIntS_any (v : Value) (n : Nat) (b : Nat → Int) (w : World) (h : Sr .i64 w.heap.size w v n b) (hn : n ≤ 1000000000000) :
    Calls Try.prog 45 #[v] w (MadeInt n b w) := by
  obtain ⟨a, cap, rfl, _, hc⟩ := h
  have HC := Lib.hid hc; clear hc
  go_enter Try.func45, Try.ntmps45
  go_wp2_with (refine makeInts n rfl (by omega) rfl rfl rfl rfl ?_)
  go_loopw [4] (fun i wr => ∃ k : Nat, k ≤ n ∧ i = .int .i64 k ∧ Blk wr w.heap.size n 3 (fun i => if i < k then b i else 0) ∧ Below w.heap.size w wr) (fun i _ => n - (intOf i).toNat)
  case atStart => exact ⟨0, by omega, rfl, Blk.new' rfl, (Below.refl _ _).alloc (Nat.le_refl _) _⟩
  case round =>
    obtain ⟨k, hk, rfl, hX, hbel⟩ := hrel
    by_cases hlt : k < n
    · obtain ⟨g, off, rfl, hg, hcell⟩ := HC.out (by omega)
      have c1 := (hbel.cell (p := ⟨g, off + k, none⟩) hg).trans (hcell k hlt)
      have c2 := hX.cell k hlt
      have f2 := hX.frozen k
      clear hcell HC
      go_wp2_with fail
      go_roundw
      case rel => exact ⟨k + 1, by omega, by go_num, (hX.set k _).congr (upto_step n), hbel.setCell (by simp) _⟩
      case measure => simp [intOf]; omega
    · have hR : Blk wr w.heap.size n 3 b := hX.congr (fun j hj => by rw [if_pos (by omega)])
      go_wp2_with fail
      go_ret
      exact ⟨_, rfl, Nat.le_refl _, hR, hbel⟩

theorem eqIntS_yes (u v : Value) (n : Nat) (b c : Nat → Int) (w : World) (hu : Sr .i64 w.heap.size w u n b) (hv : Sr .i64 w.heap.size w v n c) (h : ∀ i, i < n → b i = c i) (hn : n ≤ 1000000000000) :
    Calls Try.prog 41 #[u, v] w fun e w' => e = .returned (.bool true) ∧ Below w.heap.size w w' := by
  have hv := hv.congr (c := b) (fun i hi => (h i hi).symm)
  clear h
  obtain ⟨a, cap, rfl, _, hc⟩ := hu
  obtain ⟨a', cap', rfl, _, hc'⟩ := hv
  have HC := Lib.hid hc; have HC' := Lib.hid hc'; clear hc hc'
  go_enter Try.func41, Try.ntmps41
  go_wp2
  go_loopw [5] (fun i wr => ∃ k m : Nat, k ≤ n ∧ i = .int .i64 k ∧ wr = w.drewN m) (fun i _ => n - (intOf i).toNat)
  case atStart => exact ⟨0, 0, by omega, rfl, rfl⟩
  case round =>
    obtain ⟨k, m, hk, rfl, rfl⟩ := hrel
    by_cases hlt : k < n
    · obtain ⟨g, off, rfl, hg, hcell⟩ := HC.out (by omega)
      obtain ⟨g', off', rfl, hg', hcell'⟩ := HC'.out (by omega)
      have c1 := hcell k hlt
      have c2 := hcell' k hlt
      have hk1 : (k : Int) < n := by omega
      have hk0 : (0 : Int) ≤ k := by omega
      clear hcell hcell' HC HC'
      go_wp2_with fail
      go_quiet (fail)
      go_wp2_with fail
      go_roundw
      case rel => exact ⟨k + 1, _, by omega, by go_num, rfl⟩
      case measure => simp [intOf]; omega
    · go_wp2_with fail
      go_ret
      exact ⟨rfl, below_drewN (Below.refl _ _) m⟩

theorem markIntS_any (v : Value) (n lo hi : Nat) (b : Nat → Int) (m : Int) (w : World) (h : Sn .i64 lo hi w v n b) (hn : n ≤ 1000000000000) (hm0 : 0 ≤ m) (hm : m ≤ 1000000000000) :
    Calls Try.prog 42 #[v, .int .i64 m] w fun e w' => e = .returned (.int .i64 (m + n)) ∧ Sn .i64 lo hi w' v n (fun i => (m + i : Int)) ∧ Mod lo hi w w' := by
  obtain ⟨a, cap, rfl, hcap, hc⟩ := h
  by_cases h0 : n = 0
  · subst h0
    clear hc
    go_enter Try.func42, Try.ntmps42
    go_wp2
    go_loop [1, 5] (fun k i => i = .int .i64 0 ∧ k = .int .i64 m) (fun _ _ => 0)
    case atStart => exact ⟨rfl, rfl⟩
    case round =>
      obtain ⟨rfl, rfl⟩ := hrel
      go_wp2_with fail
      go_ret
      exact ⟨ret_int (by omega), ⟨_, _, rfl, hcap, fun h => absurd h (by omega)⟩, Mod.refl _ _ _⟩
  · obtain ⟨g, off, rfl, h1, h2, hc⟩ := hc (by omega)
    have HC := Lib.hid hc; clear hc
    have Hn := Lib.hid h0; clear h0
    go_enter Try.func42, Try.ntmps42
    go_wp2
    go_loopw [1, 5] (fun m' i wr => ∃ k : Nat, k ≤ n ∧ i = .int .i64 k ∧ m' = .int .i64 (m + k) ∧ Hid (∀ i, i < n → wr.cell? ⟨g, off + i, none⟩ = some (.int .i64 (if i < k then (m + i : Int) else b i)) ∧ wr.frozen? ⟨g, off + i, none⟩ = false) ∧ Mod lo hi w wr) (fun _ i _ => n - (intOf i).toNat)
    case atStart => exact ⟨0, by omega, rfl, by simp, fun i hi => by simpa using HC.out i hi, Mod.refl _ _ _⟩
    case round =>
      obtain ⟨k, hk, rfl, rfl, HX, hmod⟩ := hrel
      by_cases hlt : k < n
      · have c2 := (HX.out k hlt).1
        have f2 := (HX.out k hlt).2
        go_wp2_with fail
        go_roundw
        case rel =>
          refine ⟨k + 1, by omega, by go_num, by go_num, fun i hi => ⟨?_, ?_⟩, hmod.setCell h1 h2 _ _⟩
          · by_cases e : i = k
            · subst e
              rw [if_pos (by omega)]
              exact World.cell?_setCell_same wr _ _ c2
            · rw [World.cell?_setCell_other wr _ _ _ (by simp <;> omega)]
              have := (HX.out i hi).1
              by_cases e2 : i < k
              · rw [if_pos e2] at this; rw [if_pos (by omega)]; exact this
              · rw [if_neg e2] at this; rw [if_neg (by omega)]; exact this
          · have := (HX.out i hi).2
            simpa using this
        case measure => simp [intOf]; omega
      · go_wp2_with fail
        go_ret
        exact ⟨ret_int (by omega), ⟨_, _, rfl, hcap, fun _ => ⟨g, off, rfl, h1, h2, fun i hi => by have := HX.out i hi; rw [if_pos (by omega)] at this; exact this⟩⟩, hmod⟩

theorem heldIntS_any (v : Value) (n hi : Nat) (m : Int) (w : World) (h : Sr .i64 hi w v n (fun i => (m + i : Int))) (hn : n ≤ 1000000000000) (hm0 : 0 ≤ m) (hm : m ≤ 1000000000000) :
    Calls Try.prog 43 #[v, .int .i64 m] w fun e w' => e = .returned (.int .i64 (m + n)) ∧ Below w.heap.size w w' := by
  obtain ⟨a, cap, rfl, _, hc⟩ := h
  have HC := Lib.hid hc; clear hc
  go_enter Try.func43, Try.ntmps43
  go_wp2
  go_loopw [1, 5] (fun m' i wr => ∃ k d : Nat, k ≤ n ∧ i = .int .i64 k ∧ m' = .int .i64 (m + k) ∧ wr = w.drewN d) (fun _ i _ => n - (intOf i).toNat)
  case atStart => exact ⟨0, 0, by omega, rfl, by simp, rfl⟩
  case round =>
    obtain ⟨k, d, hk, rfl, rfl, rfl⟩ := hrel
    by_cases hlt : k < n
    · obtain ⟨g, off, rfl, hg, hcell⟩ := HC.out (by omega)
      have c1 := hcell k hlt
      have hk1 : (k : Int) < n := by omega
      have hk0 : (0 : Int) ≤ k := by omega
      clear hcell HC
      go_wp2_with fail
      go_roundw
      case rel => exact ⟨k + 1, _, by omega, by go_num, by go_num, rfl⟩
      case measure => simp [intOf]; omega
    · go_wp2_with fail
      go_ret
      exact ⟨ret_int (by omega), below_drewN (Below.refl _ _) d⟩

end Go.Proofs.Ytjogdkeoadkbnaa
