/- The drawing functions that return blocks; comparing two blocks; a block's variable. -/
import Derived.Test.YtogmlcmajecpgaaDrawBlock
import Derived.Test.YtogmlcmajecpgaaPicture
import Derived.Test.YtogmlcmajecpgaaOpenRow
import Derived.Laws.StructEq
import Derived.Deep.RegionHeld3
namespace Go.Proofs.Ytogmlcmajecpgaa
open Go.RowKit

/-- Two blocks are equal. -/
def eqB (b c : Nat → Int) : Bool := (List.range 16).all fun i => b i == c i
theorem eqB_true {b c : Nat → Int} (h : ∀ k, k < 16 → b k = c k) : eqB b c = true := by
  simp only [eqB, List.all_eq_true, List.mem_range, beq_iff_eq]; exact h
theorem eqB_out {b c : Nat → Int} (h : eqB b c = true) : ∀ k, k < 16 → b k = c k := by
  simpa only [eqB, List.all_eq_true, List.mem_range, beq_iff_eq] using h
theorem run_equal16 (b c : Nat → Int) (w : World) : (Op.equalIn 10000 29 (.agg (VN 16 b)) (.agg (VN 16 c))).run Try.prog w = .ok (eqB b c) w := by
  have hsz : ∀ w, (sizeOf 3).run Try.prog w = .ok 1 w := fun _ => by kernel_rfl
  unfold eqB
  rw [List.range_eq_range', Op.equalIn]
  simp only [Sem.run_bind, run_underlying Try.underlying29, Result.andThen_ok, hsz, Std.Legacy.Range.forIn_eq_forIn_range', Std.Legacy.Range.size, Nat.sub_zero, Nat.add_sub_cancel, Nat.div_one]
  have hl : ∀ i ∈ List.range' 0 16 1, i < 16 := fun i hi => by simpa using (List.mem_range'_1.1 hi).2
  generalize List.range' 0 16 1 = l at hl ⊢
  induction l with
  | nil => simp
  | cons i l ih =>
    have hi : i < 16 := hl i (by simp)
    have px : (part 3 (VN 16 b) (i * 1)).run Try.prog w = .ok (.int .i64 (b i)) w := by
      simp [part, isAgg, run_underlying Try.underlying3, VN_get 16 b i hi]
    have py : (part 3 (VN 16 c) (i * 1)).run Try.prog w = .ok (.int .i64 (c i)) w := by
      simp [part, isAgg, run_underlying Try.underlying3, VN_get 16 c i hi]
    have pe : (Op.equalIn 9999 3 (.int .i64 (b i)) (.int .i64 (c i))).run Try.prog w = .ok (b i == c i) w := run_equalIn_int w 9998 3 .i64 .i64 _ _ Try.underlying3
    simp only [List.forIn_cons, Sem.run_bind, px, py, pe, Result.andThen_ok, List.all_cons]
    cases hb : (b i == c i)
    · simp
    · simp only [Bool.not_true, Bool.false_eq_true, if_false, Sem.run_pure, Result.andThen_ok, Bool.true_and]
      exact ih fun j hj => hl j (by simp [hj])
theorem run_equal16z (b : Nat → Int) (w : World) : (Op.equalIn 10000 29 (.agg (VN 16 b)) (.agg #[.int .i64 0, .int .i64 0, .int .i64 0, .int .i64 0, .int .i64 0, .int .i64 0, .int .i64 0, .int .i64 0, .int .i64 0, .int .i64 0, .int .i64 0, .int .i64 0, .int .i64 0, .int .i64 0, .int .i64 0, .int .i64 0])).run Try.prog w = .ok (eqB b fun _ => 0) w := by
  rw [← zero16]; exact run_equal16 b _ w
theorem yields16' {ops : Array Oper} {S : World → Prop} {op : Oper} {a : Act} {x : Operand} {b : Nat → Int} (g : Nat) (hS : ∀ w, S w → Blk w g 16 29 b) (hw : Region.wanted op (yielded ops a.tmps) = true) (ho : op.op = .load 29 x)
    (hx : a.eval x = .pointer (some ⟨g, 0, none⟩)) : YieldsIf Try.prog ops S op (.agg (VN 16 b)) a :=
  .inl ⟨hw, fun w hw' => by
    unfold execOp
    simp only [ho, hx, Instr.loadAt, Instr.sureAddr, Sem.run_bind, Sem.run_pure, Result.andThen_ok, run_loadVar_row w _ _ _ _ _ _ (hS w hw') Try.underlying29 rfl (info16 b)]⟩

theorem results_cell_tmp_row {P : Program} {fn : Func} {p u : Tmp} {ty : TypeId} (h : fn.results = #[.cell p ty, .tmp u]) (tmps : Array Value) (w : World) (g : Nat) (t : TypeId) (cs : Array Value) (fr : Nat × Nat) (d : TypeDesc)
    (hp : tmps.getD p undef = .pointer (some ⟨g, 0, none⟩)) (hg : w.heap[g]? = some (.cells cs t fr))
    (hu : P.underlying ty = some d) (hd : (match d with | .struct _ | .array _ _ => true | _ => false) = true) (hi : (P.info? ty).map (·.size) = some cs.size) :
    (results fn tmps).run P w = .ok (.tuple #[.agg cs, tmps.getD u undef]) w := by
  have hp' : tmps[p]?.getD undef = .pointer (some ⟨g, 0, none⟩) := by simpa using hp
  simp [results, h, hp', asAddr, run_loadVar_row w g t ty cs fr d hg hu hd hi]
theorem results_cell2_row {P : Program} {fn : Func} {p q : Tmp} {ty : TypeId} (h : fn.results = #[.cell p ty, .cell q ty]) (tmps : Array Value) (w : World) (g g' : Nat) (t : TypeId) (cs cs' : Array Value) (fr fr' : Nat × Nat) (d : TypeDesc)
    (hp : tmps.getD p undef = .pointer (some ⟨g, 0, none⟩)) (hg : w.heap[g]? = some (.cells cs t fr)) (hp2 : tmps.getD q undef = .pointer (some ⟨g', 0, none⟩)) (hg2 : w.heap[g']? = some (.cells cs' t fr'))
    (hu : P.underlying ty = some d) (hd : (match d with | .struct _ | .array _ _ => true | _ => false) = true) (hi : (P.info? ty).map (·.size) = some cs.size) (hi2 : (P.info? ty).map (·.size) = some cs'.size) :
    (results fn tmps).run P w = .ok (.tuple #[.agg cs, .agg cs']) w := by
  have hp' : tmps[p]?.getD undef = .pointer (some ⟨g, 0, none⟩) := by simpa using hp
  have hp2' : tmps[q]?.getD undef = .pointer (some ⟨g', 0, none⟩) := by simpa using hp2
  simp [results, h, hp', hp2', asAddr, run_loadVar_row w g t ty cs fr d hg hu hd hi, run_loadVar_row w g' t ty cs' fr' d hg2 hu hd hi2]
theorem ret16t {fn : Func} {R : Ending → World → Prop} {a : Act} {w : World} {p u : Tmp} {b : Nat → Int} {z : Value} (g : Nat) (hr : fn.results = #[.cell p 29, .tmp u]) (hB : Blk w g 16 29 b) (hp : a.tmps.getD p undef = .pointer (some ⟨g, 0, none⟩)) (hu : a.tmps.getD u undef = z) (hd : a.defers = [])
    (hR : R (.returned (.tuple #[.agg (VN 16 b), z])) w) : bodyPost Try.prog fn R .ret a w := by
  subst hu
  exact bodyPost_ret (results_cell_tmp_row hr _ _ g 29 _ (0, 0) _ hp hB Try.underlying29 rfl (info16 _)) hd hR
theorem ret16t2 {fn : Func} {R : Ending → World → Prop} {a : Act} {w : World} {p q : Tmp} {b c : Nat → Int} (g g' : Nat) (hr : fn.results = #[.cell p 29, .cell q 29]) (hB : Blk w g 16 29 b) (hC : Blk w g' 16 29 c) (hp : a.tmps.getD p undef = .pointer (some ⟨g, 0, none⟩)) (hq : a.tmps.getD q undef = .pointer (some ⟨g', 0, none⟩)) (hd : a.defers = [])
    (hR : R (.returned (.tuple #[.agg (VN 16 b), .agg (VN 16 c)])) w) : bodyPost Try.prog fn R .ret a w :=
  bodyPost_ret (results_cell2_row hr _ _ g g' 29 _ _ (0, 0) (0, 0) _ hp hB hq hC Try.underlying29 rfl (info16 _) (info16 _)) hd hR

theorem SlB.mono {B B' : Nat} {w : World} {v : Value} {n : Nat} {b : Nat → Int} (h : SlB B w v n b) (hB : B ≤ B') : SlB B' w v n b := by
  rcases h with h | ⟨g, off, cap, hv, hg, hn, hc⟩
  · exact Or.inl h
  · exact Or.inr ⟨g, off, cap, hv, fun h0 => by have := hg h0; omega, hn, hc⟩
theorem SlB.later {w w' : World} {v : Value} {n : Nat} {b : Nat → Int} (h : SlB w.heap.size w v n b) (hb : Below w.heap.size w w') : SlB w'.heap.size w' v n b := (h.kept fun g hg => hb.block g hg).mono hb.size
/-- A block is drawn; nothing old has turned. -/
def BDrawn (M : Int) (w : World) (e : Ending) (w' : World) : Prop := ∃ b : Nat → Int, e = .returned (.agg (VN 16 b)) ∧ Hid (Within b M) ∧ Below w.heap.size w w'

theorem DrawRunsOf_any (v : Value) (n : Nat) (c : Nat → Int) (w : World) (h : SlB w.heap.size w v n c) (hn : n ≤ 1000000000000) :
    Calls Try.prog 30 #[v] w (BDrawn 901 w) := by
  obtain ⟨w0, hw0⟩ : ∃ w0, w0 = w.alloc (.cells #[.int .i64 0, .int .i64 0, .int .i64 0, .int .i64 0, .int .i64 0, .int .i64 0, .int .i64 0, .int .i64 0, .int .i64 0, .int .i64 0, .int .i64 0, .int .i64 0, .int .i64 0, .int .i64 0, .int .i64 0, .int .i64 0] 29) := ⟨_, rfl⟩
  have hA : Blk w0 w.heap.size 16 29 (fun _ => 0) := by rw [hw0, ← zero16]; exact Blk.new' rfl
  have hbel : Below w.heap.size w w0 := by rw [hw0]; exact (Below.refl _ _).alloc (Nat.le_refl _) _
  have HS := Lib.hid (h.later hbel)
  have HW := Lib.hid hw0
  have hs0 := hA.lt
  clear hw0 h
  go_enter Try.func30, Try.ntmps30
  go_wp2_with fail
  rw [← HW.out]
  clear HW
  refine (l20Open_any v n c _ HS.out hn).mono ?_; rintro e w1 ⟨rfl, hr1, hb1, hz1⟩
  have hA1 := hA.below hb1 hA.lt
  have hbel1 := hbel.trans (hb1.mono (by omega))
  have HR1 := Lib.hid hr1
  have hl1 := hr1.lt
  clear hA hbel hr1 hb1 hz1 HS
  go_wp2_with fail
  refine (l20Block_any _ _ 0 900 0 _ HR1.out (by omega) (by omega) (by omega) (by omega) (by omega)).mono ?_; rintro e w2 ⟨b, rfl, hwi, _, hb2⟩
  have hA2 := hA1.but hb2 (by omega)
  have hbel2 := hbel1.trans (hb2.below (by omega) (by omega))
  clear hA1 hbel1 HR1 hb2
  go_wp2_with (refine store16 w.heap.size b hA2 rfl rfl rfl rfl ?_)
  exact ret16 w.heap.size Try.results30 (hA2.setRow _) rfl rfl ⟨b, rfl, hwi, below_setRow hbel2 (Nat.le_refl _) _⟩
end Go.Proofs.Ytogmlcmajecpgaa
