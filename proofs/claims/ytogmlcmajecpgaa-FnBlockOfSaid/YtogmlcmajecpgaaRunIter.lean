/- The iterator over a block's runs, and the functions that range over it. -/
import Derived.RangeFuncNested
import Derived.RangeFuncBound
import Derived.RangeFuncCalls
import Derived.RangeFuncLeaves
import Derived.RangeFuncBox
import Derived.Shelf.Abstract
import Derived.Shelf.RegionOpen
import Derived.OwnWalkIn
import Derived.TacticsInMore
import Derived.LoopNIn
import Derived.LoopIn
import Derived.Maps.AppendAt
import Derived.Test.YtogmlcmajecpgaaRunMath
namespace Go.Proofs.Ytogmlcmajecpgaa
open Go.RowKit Go.Shelf
attribute [local go_sem] Oper.semAt_some

/-- A run as a value. -/
def runV (x : Int × Int) : Value := .agg #[.int .i64 x.1, .int .i64 x.2]
theorem load16In {F : Fence} {n : Nat} {ops : Array Oper} {rest : List Oper} {o : Oper} {a : Act} {w : World} {Q : Exit → Act → World → Prop} {x : Operand} {b : Nat → Int} (g : Nat) (hB : Blk w g 16 29 b) (hgd : o.guard = none) (ho : o.op = .load 29 x)
    (hx : a.eval x = .pointer (some ⟨g, 0, none⟩)) (h : wpListIn F n Try.prog ops Q rest (a.put o.dst (.agg (VN 16 b))) w) : wpListIn F n Try.prog ops Q (o :: rest) a w := by
  refine wpListIn_plain hgd fun K hK' => ?_
  unfold Oper.wpIn
  refine ⟨?_, ?_⟩
  · simp [Oper.about, ho]
  · rw [Oper.semAt_plain F _ _ (by rw [ho]; intro c hc'; cases hc')]
    unfold execOp
    simp only [ho, hx, Instr.loadAt, Instr.sureAddr, Sem.run_bind, Sem.run_pure, Result.andThen_ok, run_loadVar_row w g 29 29 (VN 16 b) (0, 0) _ hB Try.underlying29 rfl (info16 b)]
    exact hK' _ _ h
theorem runsIn_any (b : Nat → Int) (w : World) :
    Calls Try.prog 35 #[.agg (VN 16 b)] w fun e w' => e = .returned (.func (.func 44) #[] #[.pointer (some ⟨w.heap.size, 0, none⟩)]) ∧ w' = w.alloc (.cells (VN 16 b) 29) := by
  go_enter Try.func35, Try.ntmps35
  go_wp2
  go_ret
  exact ⟨rfl, rfl⟩
theorem Below.grownNone {w w' : World} (h : Below w.heap.size w w') : w.grownBy w' none := ⟨h.os, h.tape, h.output, h.size, fun k hk _ => h.block k hk⟩
set_option maxRecDepth 100000 in
set_option maxHeartbeats 2000000 in
/-- The iterator gives the block's runs, one by one. -/
theorem iter_in (n : Nat) (hn : 1 ≤ n) (l Bl : Nat) (b : Nat → Int) (J Jx : List (Int × Int) → World → Prop)
    (hY : ∀ pre x W, J pre W → pre.length < 16 → YieldAt Fence.wide (n - 1) Try.prog l #[runV x] W fun e W' =>
      (e = .returned (.bool true) ∧ J (pre ++ [x]) W' ∧ W'.heap[Bl]? = W.heap[Bl]?) ∨ (e = .returned (.bool false) ∧ Jx (pre ++ [x]) W'))
    (W : World) (hJ : AbidesFrom W.heap.size J) (hB : Blk W Bl 16 29 b) (h0 : J [] W) :
    CallsIn Fence.wide n Try.prog 44 #[.func (.yield l) #[] #[], .pointer (some ⟨Bl, 0, none⟩)] W fun e W' => (∃ v, e = .returned v) ∧
      ((∃ ys, ys = runsB b ∧ J ys W') ∨ (∃ pre, True ∧ Jx pre W')) := by
  refine callsIn_of_wp Try.func44 rfl trivial ?_ rfl
  simp only [Try.ntmps44, List.size_toArray, List.length_cons, List.length_nil, Nat.reduceAdd, Nat.reduceSub, Array.replicate_succ, Array.replicate_zero, List.push_toArray, List.append_toArray, List.nil_append, List.cons_append]
  gi_wp2_with (refine ⟨trivial, ?_⟩; gi_at_call 33; refine (callsIn_wide.2 (scanOrder_any _)).mono ?_; rintro e w1 ⟨rfl, hb1⟩)
  have hJ1 : J [] w1 := hJ [] W w1 none h0 (Below.grownNone hb1) (fun r e => by cases e)
  have hB1 : Blk w1 Bl 16 29 b := hB.below hb1 hB.lt
  clear h0 hJ hB hb1
  gi_loopw [3, 8] (fun z i wr => ∃ (k m : Nat) (pre : List (Int × Int)), k ≤ 16 ∧ i = .int .i64 k ∧ z = .int .i64 m ∧ Hid (rTo (scB b) k = (pre, m)) ∧ Blk wr Bl 16 29 b ∧ J pre wr) (fun _ i _ => 16 - (intOf i).toNat)
  case atStart => exact ⟨0, 0, [], by omega, rfl, rfl, Lib.hid rfl, hB1, hJ1⟩
  case round =>
    clear hB1 hJ1
    obtain ⟨k, m, pre, hk, rfl, rfl, HP, hB, hJs⟩ := hrel
    have hlen : pre.length + m ≤ k := by have := rTo_len (scB b) k; rw [HP.out] at this; exact this
    by_cases hlt : k < 16
    · have hlt' : (k : Int) < 16 := by omega
      have hi := run_index16 scF k hlt
      obtain ⟨p, hp⟩ : ∃ p : Nat, scN k = p := ⟨_, rfl⟩
      have hp16 : p < 16 := by rw [← hp]; exact scN_lt k hlt
      have hsc : scF k = (p : Int) := by unfold scF; rw [hp]
      rw [hsc] at hi
      obtain ⟨x, hx⟩ : ∃ x, b p = x := ⟨_, rfl⟩
      have hc := hB.cell p hp16
      rw [hx] at hc
      have HX := Lib.hid (show scB b k = x by unfold scB; rw [hp]; exact hx)
      clear hp hsc hx
      by_cases hx0 : x = 0
      · have e0 : (x == 0) = true := by simp [hx0]
        have HN := Lib.hid (rTo_zero (f := scB b) (n := k) (HX.out.trans hx0))
        clear hx0 HX
        gi_wp2
        go_roundw
        case rel => exact ⟨k + 1, m + 1, pre, by omega, by go_num, by go_num, Lib.hid (by rw [HN.out, HP.out]), hB, hJs⟩
        case measure => simp [intOf]; omega
      · have e0 : (x == 0) = false := by simp [hx0]
        have HN := Lib.hid (rTo_level (f := scB b) (n := k) (by rw [HX.out]; exact hx0))
        clear hx0
        obtain ⟨fn, tmps, assign, body, hy, hR⟩ := hY pre ((m : Int), x) wr hJs (by omega)
        unfold runV at hy
        dsimp only at hy
        gi_wp2
        refine hR.mono ?_
        rintro e W3 (⟨rfl, hJ3, hk3⟩ | ⟨rfl, hJx3⟩)
        · have hB3 : Blk W3 Bl 16 29 b := hk3.trans hB
          gi_wp2
          go_roundw
          case rel => exact ⟨k + 1, 0, _, by omega, by go_num, rfl, Lib.hid (by rw [HN.out, HP.out, HX.out]), hB3, hJ3⟩
          case measure => simp [intOf]; omega
        · gi_wp2
          refine bodyPost_ret (results_none rfl _ _ _) rfl ?_
          exact ⟨⟨_, rfl⟩, .inr ⟨_, trivial, hJx3⟩⟩
    · obtain rfl : k = 16 := by omega
      gi_wp2
      go_end0
      exact ⟨⟨_, rfl⟩, .inl ⟨pre, by unfold runsB; rw [HP.out], hJs⟩⟩
/-- The value that runsIn hands back is an iterator over the block's runs. -/
theorem iter_stops (n : Nat) (hn : 1 ≤ n) (Bl : Nat) (b : Nat → Int) (w : World) (hB : Blk w Bl 16 29 b) :
    SeqStopsK Fence.wide n Try.prog 44 #[.pointer (some ⟨Bl, 0, none⟩)] (fun x : Int × Int => #[runV x]) (fun W W' => W'.heap[Bl]? = W.heap[Bl]?) (fun ys => ys = runsB b) (fun _ => True) 16 w := fun l J Jx W hW hJ _ hY h0 =>
  iter_in n hn l Bl b J Jx hY W hJ (hB.below hW hB.lt) h0
set_option maxRecDepth 100000 in
set_option maxHeartbeats 2000000 in
theorem iNonzeroCount_any (b : Nat → Int) (w : World) :
    Calls Try.prog 16 #[.agg (VN 16 b)] w fun e w' => e = .returned (.int .i64 (cz b 16)) ∧ Below w.heap.size w w' := by
  refine (callsIn_wide (n := 3)).1 ?_
  refine callsIn_of_wp_marks Try.func16 rfl trivial ?_ rfl
  simp only [Try.ntmps16, List.size_toArray, List.length_cons, List.length_nil, Nat.reduceAdd, Nat.reduceSub, Array.replicate_succ, Array.replicate_zero, List.push_toArray, List.append_toArray, List.nil_append, List.cons_append]
  have hL : Blk ((w.alloc (.cells (VN 16 b) 29)).alloc (.cells #[.int .i64 0] 3)) w.heap.size 16 29 b := (Blk.new w 16 29 b).alloc _
  gi_wp2_with (first | refine load16In w.heap.size hL rfl rfl rfl ?_ | (refine ⟨trivial, ?_⟩; gi_at_call 35; refine (callsIn_wide.2 (runsIn_any _ _)).mono ?_; rintro e w' ⟨rfl, rfl⟩))
  have hs := (Boxed.new (w.alloc (.cells (VN 16 b) 29)) 3 (.int .i64 0)).alloc (.cells (VN 16 b) 29)
  rw [World.size_alloc] at hs
  have hI : Blk (((w.alloc (.cells (VN 16 b) 29)).alloc (.cells #[.int .i64 0] 3)).alloc (.cells (VN 16 b) 29)) (w.heap.size + 1 + 1) 16 29 b := Blk.new' (by simp)
  have hB0 : Below w.heap.size w (((w.alloc (.cells (VN 16 b) 29)).alloc (.cells #[.int .i64 0] 3)).alloc (.cells (VN 16 b) 29)) := (((Below.refl _ w).alloc (Nat.le_refl _) _).alloc (by simp) _).alloc (by simp; omega) _
  have hsz : (((w.alloc (.cells (VN 16 b) 29)).alloc (.cells #[.int .i64 0] 3)).alloc (.cells (VN 16 b) 29)).heap.size = w.heap.size + 3 := by simp
  have hcz := runsB_cz b
  clear hL
  generalize ((w.alloc (.cells (VN 16 b) 29)).alloc (.cells #[.int .i64 0] 3)).alloc (.cells (VN 16 b) 29) = W0 at *
  refine wpIn_rangeFunc_ownF rfl (by omega) (gf := 44) (lb := #[.pointer (some ⟨w.heap.size + 1 + 1, 0, none⟩)]) rfl trivial (enters_of Try.func44 (by kernel_rfl) rfl)
    (iter_stops (3 - 1) (by omega) (w.heap.size + 1 + 1) b _ hI) (fun h k => k.trans h) (fun W l o o' hl _ _ _ => World.putObj_heap_other (by omega)) (Below.refl _ _) (fun _ => rfl)
    (fun pre W => Boxed W (w.heap.size + 1) 3 (.int .i64 (pre.length : Nat)) ∧ Below w.heap.size w W)
    (fun _ _ _ => False)
    (OwnFrom.and (fun s A B row hs hg hr => Boxed.kept hs hg (fun e => by have := (hr _ e.symm).1; omega)) (ownFrom_below (Nat.le_refl _) (by omega)))
    (fun _ _ _ _ _ hs _ _ => hs)
    ⟨hs, hB0⟩
    (fun x => { tmps := #[.agg (VN 16 b), .pointer (some ⟨w.heap.size, 0, none⟩), .int .i64 0, .pointer (some ⟨w.heap.size + 1, 0, none⟩), .agg (VN 16 b), .func (.func 44) #[] #[.pointer (some ⟨w.heap.size + 1 + 1, 0, none⟩)], runV x, undef, undef, undef], defers := [] }) ?assign ?body ?done ?stop
  case assign =>
    intro l x W K hK
    gi_wp2
    simpa using hK
  case body =>
    rintro l pre x W ⟨hx, hB⟩ hlen
    have hc := hx.cell
    have hf := hx.frozen
    obtain ⟨m, hm⟩ : ∃ m, pre.length = m := ⟨_, rfl⟩
    rw [hm] at hc hlen
    gi_wp2
    refine ⟨KeepsOthers.setCell _ _ _, heap_setCell_other W ⟨w.heap.size + 1, 0, none⟩ _ _ (by simp), ?_, hB.setCell (p := ⟨w.heap.size + 1, 0, none⟩) (by simp) _⟩
    have := hx.set (.int .i64 ((pre ++ [x]).length : Nat))
    simpa [hm] using this
  case done =>
    rintro D ys W hD rfl ⟨hx, hB⟩ hK
    rw [hcz] at hx
    have hc := hx.cell
    gi_wp2
    refine ⟨by simp, .inl ⟨_, _, rfl, run_takeDeferred hK, ?_⟩⟩
    exact ⟨_, results_tmp rfl _ _ _, rfl, hB.trans (belowK_b (w := w) (Nat.le_refl _) W D _ _ (by omega) hK rfl rfl)⟩
  case stop =>
    rintro D c pre W _ _ h _
    exact h.elim
end Go.Proofs.Ytogmlcmajecpgaa
