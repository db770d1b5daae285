/- toRunS. -/
import Derived.Test.YtogmlcmajecpgaaRuns
namespace Go.Proofs.Ytogmlcmajecpgaa
open Go.RowKit

/-- The runs as one row of numbers. -/
def rf (l : List (Int × Int)) (j : Nat) : Int := if j % 2 = 0 then zr l (j / 2) else lv l (j / 2)
theorem rf_0 (l : List (Int × Int)) (k : Nat) : rf l (k * 2) = zr l k := by unfold rf; rw [if_pos (by omega), Nat.mul_div_cancel _ (by omega)]
theorem rf_1 (l : List (Int × Int)) (k : Nat) : rf l (k * 2 + 1) = lv l k := by unfold rf; rw [if_neg (by omega)]; congr 1; omega
theorem SrR.blk {w : World} {g n cap : Nat} {t : TypeId} {l : List (Int × Int)} (h : Blk w g (n * 2) t (rf l)) (hn : l.length = n) (hc : n ≤ cap) : SrR w.heap.size w (.slice (some ⟨g, 0, none⟩) n cap) l := by
  subst hn
  refine ⟨_, _, rfl, hc, fun h0 => ⟨g, 0, rfl, h.lt, fun i hi => ?_⟩⟩
  have c1 := h.cell (i * 2) (by omega)
  have c2 := h.cell (i * 2 + 1) (by omega)
  rw [rf_0] at c1
  rw [rf_1] at c2
  simp only [Nat.zero_add]
  exact ⟨c1, c2⟩
theorem made_VN2 (n : Nat) : madeCells #[.int .i64 0, .int .i64 0] n = VN n (fun _ => 0) := by
  apply Array.ext (by simp [madeCells, VN])
  intro i h1 h2
  have : i % 2 = 0 ∨ i % 2 = 1 := by omega
  rcases this with e | e <;> simp [madeCells, VN, e]
theorem infoRun : (Try.prog.info? 48).map (fun i => (i.zero, i.size, i.bytes)) = some (some (.agg #[.int .i64 0, .int .i64 0]), 2, 16) := by kernel_rfl
theorem makeRuns {ops : Array Oper} {rest : List Oper} {o : Oper} {a : Act} {w : World} {Q : Exit → Act → World → Prop} {l c : Operand} {C : Int} (n : Nat) (hC : C = (n : Int)) (hn : n ≤ 1000000000000) (hgd : o.guard = none) (ho : o.op = .makeSlice 39 l c)
    (hl : a.eval l = .int .i64 C) (hc : a.eval c = .int .i64 C) (h : wpList Try.prog ops Q rest (a.put o.dst (.slice (some ⟨w.heap.size, 0, none⟩) n n)) (w.alloc (.cells (VN (n * 2) fun _ => 0) 48))) : wpList Try.prog ops Q (o :: rest) a w := by
  subst hC
  refine wpList_plain hgd fun K hK' => ?_
  obtain ⟨i0, hi0, hz0, hz1, hz2⟩ := info_parts infoRun
  have hrun := run_make (P := Try.prog) w 39 48 i0 _ Try.underlying39 hi0 hz0 .i64 .i64 (n : Int) (n : Int) (by omega) (by omega) (by rw [hz2]; omega) (by omega)
  rw [hz1, Int.toNat_natCast, show (Value.agg #[.int .i64 0, .int .i64 0]).cells = #[.int .i64 0, .int .i64 0] from rfl, made_VN2] at hrun
  unfold Oper.wp
  simp [execOp, ho, hl, hc, hrun, Result.andThen]
  exact hK' _ _ h
theorem toRunS_any (v : Value) (l : List (Int × Int)) (w : World) (h : SrR w.heap.size w v l) (hn : l.length ≤ 1000000000000) :
    Calls Try.prog 22 #[v] w fun e w' => ∃ u, e = .returned u ∧ SrR w'.heap.size w' u l ∧ Below w.heap.size w w' := by
  obtain ⟨a, cap, rfl, _, hc⟩ := h
  obtain ⟨n, hl⟩ : ∃ n, l.length = n := ⟨_, rfl⟩
  rw [hl] at hc hn ⊢
  have HC := Lib.hid hc; clear hc
  have HL := Lib.hid hl; clear hl
  go_enter Try.func22, Try.ntmps22
  go_wp2_with (refine makeRuns n rfl (by omega) rfl rfl rfl rfl ?_)
  go_loopw [4] (fun i wr => ∃ k : Nat, k ≤ n ∧ i = .int .i64 k ∧ Blk wr w.heap.size (n * 2) 48 (fun j => if j < k * 2 then rf l j else 0) ∧ Below w.heap.size w wr) (fun i _ => n - (intOf i).toNat)
  case atStart => exact ⟨0, by omega, rfl, (Blk.new _ _ _ _).congr (fun j _ => by rw [if_neg (by omega)]), (Below.refl _ _).alloc (Nat.le_refl _) _⟩
  case round =>
    obtain ⟨k, hk, rfl, hX, hbel⟩ := hrel
    by_cases hlt : k < n
    · obtain ⟨g, off, rfl, hg, hcell⟩ := HC.out (by omega)
      have c1 := (hbel.cell (p := ⟨g, off + k * 2, none⟩) hg).trans (hcell k hlt).1
      have c2 := (hbel.cell (p := ⟨g, off + k * 2 + 1, none⟩) hg).trans (hcell k hlt).2
      have hk1 : (k : Int) < n := by omega
      have hk0 : (0 : Int) ≤ k := by omega
      obtain ⟨x, hx⟩ : ∃ x, zr l k = x := ⟨_, rfl⟩
      obtain ⟨y, hy⟩ : ∃ y, lv l k = y := ⟨_, rfl⟩
      rw [hx] at c1; rw [hy] at c2
      clear hcell HC
      go_wp2_with fail
      refine (toRun_any _ _ _).mono ?_; rintro e w2 ⟨rfl, hb2⟩
      have hX2 := hX.below hb2 hX.lt
      have hbel2 := hbel.trans (hb2.mono hbel.size)
      clear c1 c2 hX hbel hb2
      have d1 := hX2.cell (k * 2) (by omega)
      have d2 := hX2.cell (k * 2 + 1) (by omega)
      have f1 := hX2.frozen (k * 2)
      have f2 := hX2.frozen (k * 2 + 1)
      go_wp2_with fail
      go_roundw
      case rel => exact ⟨k + 1, by omega, by go_num, ((hX2.set (k * 2) _).set (k * 2 + 1) _).congr (fun j _ => by
        by_cases e1 : j = k * 2 + 1
        · subst e1
          rw [if_pos rfl, if_pos (by omega), rf_1, hy]
        · rw [if_neg e1]
          by_cases e0 : j = k * 2
          · subst e0
            rw [if_pos rfl, if_pos (by omega), rf_0, hx]
          · rw [if_neg e0]
            by_cases e2 : j < k * 2
            · rw [if_pos e2, if_pos (by omega)]
            · rw [if_neg e2, if_neg (by omega)]), (hbel2.setCell (by simp) _).setCell (by simp) _⟩
      case measure => simp [intOf]; omega
    · have hR : Blk wr w.heap.size (n * 2) 48 (rf l) := hX.congr (fun j hj => by rw [if_pos (by omega)])
      go_wp2_with fail
      go_ret
      exact ⟨_, rfl, SrR.blk hR HL.out (Nat.le_refl _), hbel⟩
end Go.Proofs.Ytogmlcmajecpgaa
