/- The drawing functions that return blocks; comparing two blocks; a block's variable. -/
import Derived.Test.YtammofbncdmccaaDrawBlock
import Derived.Test.YtammofbncdmccaaPicture
import Derived.Test.YtammofbncdmccaaOpenRow
import Derived.Laws.StructEq
import Derived.Deep.RegionHeld3
namespace Go.Proofs.Ytammofbncdmccaa
open Go.RowKit

/-- Two blocks are equal. -/
def eqB (b c : Nat → Int) : Bool := (List.range 16).all fun i => b i == c i
theorem eqB_true {b c : Nat → Int} (h : ∀ k, k < 16 → b k = c k) : eqB b c = true := by
  simp only [eqB, List.all_eq_true, List.mem_range, beq_iff_eq]; exact h
theorem eqB_out {b c : Nat → Int} (h : eqB b c = true) : ∀ k, k < 16 → b k = c k := by
  simpa only [eqB, List.all_eq_true, List.mem_range, beq_iff_eq] using h
theorem run_equal16 (b c : Nat → Int) (w : World) : (Op.equalIn 10000 23 (.agg (VN 16 b)) (.agg (VN 16 c))).run Try.prog w = .ok (eqB b c) w := by
  have hsz : ∀ w, (sizeOf 3).run Try.prog w = .ok 1 w := fun _ => by kernel_rfl
  unfold eqB
  rw [List.range_eq_range', Op.equalIn]
  simp only [Sem.run_bind, run_underlying Try.underlying23, Result.andThen_ok, hsz, Std.Legacy.Range.forIn_eq_forIn_range', Std.Legacy.Range.size, Nat.sub_zero, Nat.add_sub_cancel, Nat.div_one]
  have hl : ∀ i ∈ List.range' 0 16 1, i < 16 := fun i hi => by simpa using (List.mem_range'_1.1 hi).2
  generalize List.range' 0 16 1 = l at hl ⊢
  induction l with
  | nil => simp
  | cons i l ih =>
    have hi : i < 16 := hl i (by simp)
    have px : (part 3 (VN 16 b) (i * 1)).run Try.prog w = .ok (.int .i64 (b i)) w := by
      simp [part, isAgg, run_underlying Try.underlying3, VN_get 16 b i hi]
    have py : (part 3 (VN 16 c) (i * 1)).run Try.prog w = .ok (.int .i64 (c i)) w := by
      simp [part, isAgg, run_underlying Try.underlying3, VN_get 16 c i hi]
    have pe : (Op.equalIn 9999 3 (.int .i64 (b i)) (.int .i64 (c i))).run Try.prog w = .ok (b i == c i) w := run_equalIn_int w 9998 3 .i64 .i64 _ _ Try.underlying3
    simp only [List.forIn_cons, Sem.run_bind, px, py, pe, Result.andThen_ok, List.all_cons]
    cases hb : (b i == c i)
    · simp
    · simp only [Bool.not_true, Bool.false_eq_true, if_false, Sem.run_pure, Result.andThen_ok, Bool.true_and]
      exact ih fun j hj => hl j (by simp [hj])
theorem run_equal16z (b : Nat → Int) (w : World) : (Op.equalIn 10000 23 (.agg (VN 16 b)) (.agg #[.int .i64 0, .int .i64 0, .int .i64 0, .int .i64 0, .int .i64 0, .int .i64 0, .int .i64 0, .int .i64 0, .int .i64 0, .int .i64 0, .int .i64 0, .int .i64 0, .int .i64 0, .int .i64 0, .int .i64 0, .int .i64 0])).run Try.prog w = .ok (eqB b fun _ => 0) w := by
  rw [← zero16]; exact run_equal16 b _ w
theorem yields16' {ops : Array Oper} {S : World → Prop} {op : Oper} {a : Act} {x : Operand} {b : Nat → Int} (g : Nat) (hS : ∀ w, S w → Blk w g 16 23 b) (hw : Region.wanted op (yielded ops a.tmps) = true) (ho : op.op = .load 23 x)
    (hx : a.eval x = .pointer (some ⟨g, 0, none⟩)) : YieldsIf Try.prog ops S op (.agg (VN 16 b)) a :=
  .inl ⟨hw, fun w hw' => by
    unfold execOp
    simp only [ho, hx, Instr.loadAt, Instr.sureAddr, Sem.run_bind, Sem.run_pure, Result.andThen_ok, run_loadVar_row w _ _ _ _ _ _ (hS w hw') Try.underlying23 rfl (info16 b)]⟩

theorem results_cell_tmp_row {P : Program} {fn : Func} {p u : Tmp} {ty : TypeId} (h : fn.results = #[.cell p ty, .tmp u]) (tmps : Array Value) (w : World) (g : Nat) (t : TypeId) (cs : Array Value) (fr : Nat × Nat) (d : TypeDesc)
    (hp : tmps.getD p undef = .pointer (some ⟨g, 0, none⟩)) (hg : w.heap[g]? = some (.cells cs t fr))
    (hu : P.underlying ty = some d) (hd : (match d with | .struct _ | .array _ _ => true | _ => false) = true) (hi : (P.info? ty).map (·.size) = some cs.size) :
    (results fn tmps).run P w = .ok (.tuple #[.agg cs, tmps.getD u undef]) w := by
  have hp' : tmps[p]?.getD undef = .pointer (some ⟨g, 0, none⟩) := by simpa using hp
  simp [results, h, hp', asAddr, run_loadVar_row w g t ty cs fr d hg hu hd hi]
theorem results_cell2_row {P : Program} {fn : Func} {p q : Tmp} {ty : TypeId} (h : fn.results = #[.cell p ty, .cell q ty]) (tmps : Array Value) (w : World) (g g' : Nat) (t : TypeId) (cs cs' : Array Value) (fr fr' : Nat × Nat) (d : TypeDesc)
    (hp : tmps.getD p undef = .pointer (some ⟨g, 0, none⟩)) (hg : w.heap[g]? = some (.cells cs t fr)) (hp2 : tmps.getD q undef = .pointer (some ⟨g', 0, none⟩)) (hg2 : w.heap[g']? = some (.cells cs' t fr'))
    (hu : P.underlying ty = some d) (hd : (match d with | .struct _ | .array _ _ => true | _ => false) = true) (hi : (P.info? ty).map (·.size) = some cs.size) (hi2 : (P.info? ty).map (·.size) = some cs'.size) :
    (results fn tmps).run P w = .ok (.tuple #[.agg cs, .agg cs']) w := by
  have hp' : tmps[p]?.getD undef = .pointer (some ⟨g, 0, none⟩) := by simpa using hp
  have hp2' : tmps[q]?.getD undef = .pointer (some ⟨g', 0, none⟩) := by simpa using hp2
  simp [results, h, hp', hp2', asAddr, run_loadVar_row w g t ty cs fr d hg hu hd hi, run_loadVar_row w g' t ty cs' fr' d hg2 hu hd hi2]
theorem ret16t {fn : Func} {R : Ending → World → Prop} {a : Act} {w : World} {p u : Tmp} {b : Nat → Int} {z : Value} (g : Nat) (hr : fn.results = #[.cell p 23, .tmp u]) (hB : Blk w g 16 23 b) (hp : a.tmps.getD p undef = .pointer (some ⟨g, 0, none⟩)) (hu : a.tmps.getD u undef = z) (hd : a.defers = [])
    (hR : R (.returned (.tuple #[.agg (VN 16 b), z])) w) : bodyPost Try.prog fn R .ret a w := by
  subst hu
  exact bodyPost_ret (results_cell_tmp_row hr _ _ g 23 _ (0, 0) _ hp hB Try.underlying23 rfl (info16 _)) hd hR
theorem ret16t2 {fn : Func} {R : Ending → World → Prop} {a : Act} {w : World} {p q : Tmp} {b c : Nat → Int} (g g' : Nat) (hr : fn.results = #[.cell p 23, .cell q 23]) (hB : Blk w g 16 23 b) (hC : Blk w g' 16 23 c) (hp : a.tmps.getD p undef = .pointer (some ⟨g, 0, none⟩)) (hq : a.tmps.getD q undef = .pointer (some ⟨g', 0, none⟩)) (hd : a.defers = [])
    (hR : R (.returned (.tuple #[.agg (VN 16 b), .agg (VN 16 c)])) w) : bodyPost Try.prog fn R .ret a w :=
  bodyPost_ret (results_cell2_row hr _ _ g g' 23 _ _ (0, 0) (0, 0) _ hp hB hq hC Try.underlying23 rfl (info16 _) (info16 _)) hd hR

theorem SlB.mono {B B' : Nat} {w : World} {v : Value} {n : Nat} {b : Nat → Int} (h : SlB B w v n b) (hB : B ≤ B') : SlB B' w v n b := by
  rcases h with h | ⟨g, off, cap, hv, hg, hn, hc⟩
  · exact Or.inl h
  · exact Or.inr ⟨g, off, cap, hv, fun h0 => by have := hg h0; omega, hn, hc⟩
theorem SlB.later {w w' : World} {v : Value} {n : Nat} {b : Nat → Int} (h : SlB w.heap.size w v n b) (hb : Below w.heap.size w w') : SlB w'.heap.size w' v n b := (h.kept fun g hg => hb.block g hg).mono hb.size
/-- A block is drawn; nothing old has turned. -/
def BDrawn (M : Int) (w : World) (e : Ending) (w' : World) : Prop := ∃ b : Nat → Int, e = .returned (.agg (VN 16 b)) ∧ Hid (Within b M) ∧ Below w.heap.size w w'

theorem DrawForwardTransform_any (v : Value) (n : Nat) (c : Nat → Int) (w : World) (h : SlB w.heap.size w v n c) (hn : n ≤ 1000000000000) :
    Calls Try.prog 12 #[v] w (BDrawn 256 w) := by
  obtain ⟨w0, hw0⟩ : ∃ w0, w0 = w.alloc (.cells #[.int .i64 0, .int .i64 0, .int .i64 0, .int .i64 0, .int .i64 0, .int .i64 0, .int .i64 0, .int .i64 0, .int .i64 0, .int .i64 0, .int .i64 0, .int .i64 0, .int .i64 0, .int .i64 0, .int .i64 0, .int .i64 0] 23) := ⟨_, rfl⟩
  have hA : Blk w0 w.heap.size 16 23 (fun _ => 0) := by rw [hw0, ← zero16]; exact Blk.new' rfl
  have hbel : Below w.heap.size w w0 := by rw [hw0]; exact (Below.refl _ _).alloc (Nat.le_refl _) _
  have HS := Lib.hid (h.later hbel)
  have HW := Lib.hid hw0
  have hs0 := hA.lt
  clear hw0 h
  go_enter Try.func12, Try.ntmps12
  go_wp2_with fail
  rw [← HW.out]
  clear HW
  refine (l20Open_any v n c _ HS.out hn).mono ?_; rintro e w1 ⟨rfl, hr1, hb1, hz1⟩
  have hA1 := hA.below hb1 hA.lt
  have hbel1 := hbel.trans (hb1.mono (by omega))
  have HR1 := Lib.hid hr1
  have hl1 := hr1.lt
  clear hA hbel hr1 hb1 hz1 HS
  go_wp2_with fail
  refine (l20Block_any _ _ 0 255 9 _ HR1.out (by omega) (by omega) (by omega) (by omega) (by omega)).mono ?_; rintro e w2 ⟨b, rfl, hwi, _, hb2⟩
  have hA2 := hA1.but hb2 (by omega)
  have hbel2 := hbel1.trans (hb2.below (by omega) (by omega))
  clear hA1 hbel1 HR1 hb2
  go_wp2_with (refine store16 w.heap.size b hA2 rfl rfl rfl rfl ?_)
  exact ret16 w.heap.size Try.results12 (hA2.setRow _) rfl rfl ⟨b, rfl, hwi, below_setRow hbel2 (Nat.le_refl _) _⟩
theorem DrawInverseTransform_any (v : Value) (n : Nat) (c : Nat → Int) (w : World) (h : SlB w.heap.size w v n c) (hn : n ≤ 1000000000000) :
    Calls Try.prog 16 #[v] w (BDrawn 4081 w) := by
  obtain ⟨w0, hw0⟩ : ∃ w0, w0 = w.alloc (.cells #[.int .i64 0, .int .i64 0, .int .i64 0, .int .i64 0, .int .i64 0, .int .i64 0, .int .i64 0, .int .i64 0, .int .i64 0, .int .i64 0, .int .i64 0, .int .i64 0, .int .i64 0, .int .i64 0, .int .i64 0, .int .i64 0] 23) := ⟨_, rfl⟩
  have hA : Blk w0 w.heap.size 16 23 (fun _ => 0) := by rw [hw0, ← zero16]; exact Blk.new' rfl
  have hbel : Below w.heap.size w w0 := by rw [hw0]; exact (Below.refl _ _).alloc (Nat.le_refl _) _
  have HS := Lib.hid (h.later hbel)
  have HW := Lib.hid hw0
  have hs0 := hA.lt
  clear hw0 h
  go_enter Try.func16, Try.ntmps16
  go_wp2_with fail
  rw [← HW.out]
  clear HW
  refine (l20Open_any v n c _ HS.out hn).mono ?_; rintro e w1 ⟨rfl, hr1, hb1, hz1⟩
  have hA1 := hA.below hb1 hA.lt
  have hbel1 := hbel.trans (hb1.mono (by omega))
  have HR1 := Lib.hid hr1
  have hl1 := hr1.lt
  clear hA hbel hr1 hb1 hz1 HS
  go_wp2_with fail
  refine (l20Block_any _ _ 0 4080 9 _ HR1.out (by omega) (by omega) (by omega) (by omega) (by omega)).mono ?_; rintro e w2 ⟨b, rfl, hwi, _, hb2⟩
  have hA2 := hA1.but hb2 (by omega)
  have hbel2 := hbel1.trans (hb2.below (by omega) (by omega))
  clear hA1 hbel1 HR1 hb2
  go_wp2_with (refine store16 w.heap.size b hA2 rfl rfl rfl rfl ?_)
  exact ret16 w.heap.size Try.results16 (hA2.setRow _) rfl rfl ⟨b, rfl, hwi, below_setRow hbel2 (Nat.le_refl _) _⟩
theorem DrawBlockEnergy_any (v : Value) (n : Nat) (c : Nat → Int) (w : World) (h : SlB w.heap.size w v n c) (hn : n ≤ 1000000000000) :
    Calls Try.prog 8 #[v] w (BDrawn 4081 w) := by
  obtain ⟨w0, hw0⟩ : ∃ w0, w0 = w.alloc (.cells #[.int .i64 0, .int .i64 0, .int .i64 0, .int .i64 0, .int .i64 0, .int .i64 0, .int .i64 0, .int .i64 0, .int .i64 0, .int .i64 0, .int .i64 0, .int .i64 0, .int .i64 0, .int .i64 0, .int .i64 0, .int .i64 0] 23) := ⟨_, rfl⟩
  have hA : Blk w0 w.heap.size 16 23 (fun _ => 0) := by rw [hw0, ← zero16]; exact Blk.new' rfl
  have hbel : Below w.heap.size w w0 := by rw [hw0]; exact (Below.refl _ _).alloc (Nat.le_refl _) _
  have HS := Lib.hid (h.later hbel)
  have HW := Lib.hid hw0
  have hs0 := hA.lt
  clear hw0 h
  go_enter Try.func8, Try.ntmps8
  go_wp2_with fail
  rw [← HW.out]
  clear HW
  refine (l20Open_any v n c _ HS.out hn).mono ?_; rintro e w1 ⟨rfl, hr1, hb1, hz1⟩
  have hA1 := hA.below hb1 hA.lt
  have hbel1 := hbel.trans (hb1.mono (by omega))
  have HR1 := Lib.hid hr1
  have hl1 := hr1.lt
  clear hA hbel hr1 hb1 hz1 HS
  go_wp2_with fail
  refine (l20Block_any _ _ 0 4080 9 _ HR1.out (by omega) (by omega) (by omega) (by omega) (by omega)).mono ?_; rintro e w2 ⟨b, rfl, hwi, _, hb2⟩
  have hA2 := hA1.but hb2 (by omega)
  have hbel2 := hbel1.trans (hb2.below (by omega) (by omega))
  clear hA1 hbel1 HR1 hb2
  go_wp2_with (refine store16 w.heap.size b hA2 rfl rfl rfl rfl ?_)
  exact ret16 w.heap.size Try.results8 (hA2.setRow _) rfl rfl ⟨b, rfl, hwi, below_setRow hbel2 (Nat.le_refl _) _⟩
/-- What l20Samples leaves. -/
theorem smp_bd {x : Int} (h1 : -256 ≤ x) (h2 : x ≤ 256) (h : ¬ x < -255) : -256 ≤ (if x < -x then -x else x) ∧ (if x < -x then -x else x) ≤ 256 := by omega
theorem l20Samples_any (B R m : Nat) (n : Int) (w : World) (h : Rd B w R m) (hm : m ≤ 900000) (hn0 : 0 ≤ n) (hn : n ≤ 1000000) :
    Calls Try.prog 30 #[.pointer (some ⟨R, 0, none⟩), .int .i64 n] w (BlkDrawn B R m 256 w) := by
  have hRlt := h.lt
  obtain ⟨w0, hw0⟩ : ∃ w0, w0 = w.alloc (.cells #[.int .i64 0, .int .i64 0, .int .i64 0, .int .i64 0, .int .i64 0, .int .i64 0, .int .i64 0, .int .i64 0, .int .i64 0, .int .i64 0, .int .i64 0, .int .i64 0, .int .i64 0, .int .i64 0, .int .i64 0, .int .i64 0] 23) := ⟨_, rfl⟩
  have hA : Blk w0 w.heap.size 16 23 (fun _ => 0) := by rw [hw0, ← zero16]; exact Blk.new' rfl
  have hbut : But R w w0 := by rw [hw0]; exact (But.refl _ _).alloc _
  have HR := Lib.hid (show Rd B w0 R m by rw [hw0]; exact h.alloc _)
  have HW := Lib.hid hw0
  clear hw0 h
  go_enter Try.func30, Try.ntmps30
  go_wp2_with fail
  rw [← HW.out]
  clear HW
  refine (l20Block_any B R m 255 n _ HR.out (by omega) (by omega) (by omega) hn0 hn).mono ?_; rintro e w1 ⟨b, rfl, hwi, hr1, hb1⟩
  have hA1 := hA.but hb1 (by omega)
  have hbut1 := hbut.trans hb1
  have HR1 := Lib.hid hr1
  have HWi := Lib.hid hwi
  have hl1 := hr1.lt
  have hs1 := hA1.lt
  clear hA hbut HR hr1 hb1 hwi
  have hN : Blk (w1.alloc (.cells #[.int .i64 0, .int .i64 0, .int .i64 0, .int .i64 0, .int .i64 0, .int .i64 0, .int .i64 0, .int .i64 0, .int .i64 0, .int .i64 0, .int .i64 0, .int .i64 0, .int .i64 0, .int .i64 0, .int .i64 0, .int .i64 0] 23)) w1.heap.size 16 23 (fun _ => 0) := by rw [← zero16]; exact Blk.new _ _ _ _
  have hX := hN.setRow b
  have hA2 := (hA1.alloc (.cells #[.int .i64 0, .int .i64 0, .int .i64 0, .int .i64 0, .int .i64 0, .int .i64 0, .int .i64 0, .int .i64 0, .int .i64 0, .int .i64 0, .int .i64 0, .int .i64 0, .int .i64 0, .int .i64 0, .int .i64 0, .int .i64 0] 23)).setRowOther w1.heap.size (VN 16 b) (by omega)
  have hb2 := (hbut1.alloc (.cells #[.int .i64 0, .int .i64 0, .int .i64 0, .int .i64 0, .int .i64 0, .int .i64 0, .int .i64 0, .int .i64 0, .int .i64 0, .int .i64 0, .int .i64 0, .int .i64 0, .int .i64 0, .int .i64 0, .int .i64 0, .int .i64 0] 23)).setRow (g := w1.heap.size) (by omega) (VN 16 b)
  have HR2 := Lib.hid ((HR1.out.alloc (.cells #[.int .i64 0, .int .i64 0, .int .i64 0, .int .i64 0, .int .i64 0, .int .i64 0, .int .i64 0, .int .i64 0, .int .i64 0, .int .i64 0, .int .i64 0, .int .i64 0, .int .i64 0, .int .i64 0, .int .i64 0, .int .i64 0] 23)).setRow (g := w1.heap.size) (by omega) (VN 16 b))
  go_wp2_with (refine store16 w1.heap.size b hN rfl rfl rfl rfl ?_)
  generalize (w1.alloc (.cells #[.int .i64 0, .int .i64 0, .int .i64 0, .int .i64 0, .int .i64 0, .int .i64 0, .int .i64 0, .int .i64 0, .int .i64 0, .int .i64 0, .int .i64 0, .int .i64 0, .int .i64 0, .int .i64 0, .int .i64 0, .int .i64 0] 23)).setRow w1.heap.size (VN 16 b) = w2 at *
  clear hN hA1 hbut1 HR1
  go_loopw [6] (fun i wr => ∃ (k : Nat) (b : Nat → Int), k ≤ 16 ∧ i = .int .i64 k ∧ Hid (Within b 256) ∧ Blk wr w.heap.size 16 23 (fun _ => 0) ∧ Blk wr w1.heap.size 16 23 b ∧ Hid (Rd B wr R (m + 40)) ∧ But R w wr) (fun i _ => 16 - (intOf i).toNat)
  case atStart => exact ⟨0, b, by omega, rfl, HWi, hA2, hX, HR2, hb2⟩
  case round =>
    clear hA2 hX HR2 hb2 HWi
    obtain ⟨k, b, hk, rfl, HWi, hA, hX, HR, hbut⟩ := hrel
    by_cases hlt : k < 16
    · have c1 := hX.cell k hlt
      have f1 := hX.frozen k
      have hbk := HWi.out k hlt
      have hk1 : (k : Int) < 16 := by omega
      have hk0 : (0 : Int) ≤ k := by omega
      by_cases hneg : b k < -255
      · go_wp2_with fail
        go_roundw
        case rel => exact ⟨k + 1, b, by omega, by go_num, HWi, hA, hX, HR, hbut⟩
        case measure => simp [intOf]; omega
      · have HW2 := Lib.hid (HWi.out.set k (if b k < -b k then -b k else b k) (by omega) (by omega))
        go_wp2_with fail
        go_region
        go_wp2_with fail
        go_roundw
        case rel => exact ⟨k + 1, _, by omega, by go_num, HW2.out, (hA.other (by omega)).drewN 1, (hX.set k _).drewN 1, (HR.out.setCell (by simp; omega) _).kept (fun _ _ => rfl), (hbut.setCell (by simp; omega) _).drewN 1⟩
        case measure => simp [intOf]; omega
    · have HF := Lib.hid (show BlkDrawn B R m 256 w (.returned (.agg (VN 16 b))) (wr.setRow w.heap.size (VN 16 b)) from ⟨_, rfl, HWi.out, HR.out.setRow (by omega) _, hbut.setRow (Nat.le_refl _) _⟩)
      go_wp2_with (first | refine load16 w1.heap.size hX rfl rfl rfl ?_ | refine store16 w.heap.size _ hA rfl rfl rfl rfl ?_)
      exact ret16 w.heap.size Try.results30 (hA.setRow _) rfl rfl HF.out
/-- Two blocks are drawn. -/
def BDrawn2 (M : Int) (w : World) (e : Ending) (w' : World) : Prop := ∃ a b : Nat → Int, e = .returned (.tuple #[.agg (VN 16 a), .agg (VN 16 b)]) ∧ Hid (Within a M) ∧ Hid (Within b M) ∧ Below w.heap.size w w'
theorem DrawTransformCost_any (v : Value) (n : Nat) (c : Nat → Int) (w : World) (h : SlB w.heap.size w v n c) (hn : n ≤ 1000000000000) :
    Calls Try.prog 19 #[v] w (BDrawn2 256 w) := by
  obtain ⟨w0, hw0⟩ : ∃ w0, w0 = (w.alloc (.cells #[.int .i64 0, .int .i64 0, .int .i64 0, .int .i64 0, .int .i64 0, .int .i64 0, .int .i64 0, .int .i64 0, .int .i64 0, .int .i64 0, .int .i64 0, .int .i64 0, .int .i64 0, .int .i64 0, .int .i64 0, .int .i64 0] 23)).alloc (.cells #[.int .i64 0, .int .i64 0, .int .i64 0, .int .i64 0, .int .i64 0, .int .i64 0, .int .i64 0, .int .i64 0, .int .i64 0, .int .i64 0, .int .i64 0, .int .i64 0, .int .i64 0, .int .i64 0, .int .i64 0, .int .i64 0] 23) := ⟨_, rfl⟩
  have hA : Blk w0 w.heap.size 16 23 (fun _ => 0) := by rw [hw0, ← zero16]; exact (Blk.new' rfl).alloc _
  have hB : Blk w0 (w.heap.size + 1) 16 23 (fun _ => 0) := by rw [hw0, ← zero16]; exact Blk.new' (by simp)
  have hbel : Below w.heap.size w w0 := by rw [hw0]; exact ((Below.refl _ _).alloc (Nat.le_refl _) _).alloc (by simp) _
  have HS := Lib.hid (h.later hbel)
  have HW := Lib.hid hw0
  have hs0 := hB.lt
  clear hw0 h
  go_enter Try.func19, Try.ntmps19
  go_wp2_with fail
  rw [← HW.out]
  clear HW
  refine (l20Open_any v n c _ HS.out hn).mono ?_; rintro e w1 ⟨rfl, hr1, hb1, hz1⟩
  have hA1 := hA.below hb1 hA.lt
  have hB1 := hB.below hb1 hB.lt
  have hbel1 := hbel.trans (hb1.mono (by omega))
  have HR1 := Lib.hid hr1
  have hl1 := hr1.lt
  clear hA hB hbel hr1 hb1 hz1 HS
  go_wp2_with fail
  refine (l20Samples_any _ _ 0 9 _ HR1.out (by omega) (by omega) (by omega)).mono ?_; rintro e w2 ⟨a, rfl, hwa, hr2, hb2⟩
  have hA2 := hA1.but hb2 (by omega)
  have hB2 := hB1.but hb2 (by omega)
  have hbel2 := hbel1.trans (hb2.below (by omega) (by omega))
  have HR2 := Lib.hid hr2
  have HWa := Lib.hid hwa
  have hl2 := hr2.lt
  have hs2 := hB2.lt
  clear hA1 hB1 hbel1 HR1 hb2 hr2 hwa
  have HN := Lib.hid (show Blk (w2.alloc (.cells #[.int .i64 0, .int .i64 0, .int .i64 0, .int .i64 0, .int .i64 0, .int .i64 0, .int .i64 0, .int .i64 0, .int .i64 0, .int .i64 0, .int .i64 0, .int .i64 0, .int .i64 0, .int .i64 0, .int .i64 0, .int .i64 0] 23)) w2.heap.size 16 23 (fun _ => 0) by rw [← zero16]; exact Blk.new _ _ _ _)
  obtain ⟨w3, hw3⟩ : ∃ w3, w3 = (w2.alloc (.cells #[.int .i64 0, .int .i64 0, .int .i64 0, .int .i64 0, .int .i64 0, .int .i64 0, .int .i64 0, .int .i64 0, .int .i64 0, .int .i64 0, .int .i64 0, .int .i64 0, .int .i64 0, .int .i64 0, .int .i64 0, .int .i64 0] 23)).setRow w2.heap.size (VN 16 a) := ⟨_, rfl⟩
  have hV : Blk w3 w2.heap.size 16 23 a := by rw [hw3]; exact HN.out.setRow _
  have hA3 : Blk w3 w.heap.size 16 23 (fun _ => 0) := by rw [hw3]; exact (hA2.alloc _).setRowOther _ _ (by omega)
  have hB3 : Blk w3 (w.heap.size + 1) 16 23 (fun _ => 0) := by rw [hw3]; exact (hB2.alloc _).setRowOther _ _ (by omega)
  have hbel3 : Below w.heap.size w w3 := by rw [hw3]; exact below_setRow (hbel2.alloc (by omega) _) (by omega) _
  have HR3 := Lib.hid (show Rd w0.heap.size w3 w0.heap.size 40 by rw [hw3]; exact ((HR2.out.mono (by omega)).alloc _).setRow (by omega) _)
  have HW := Lib.hid hw3; clear hw3 hA2 hB2 hbel2 HR2
  go_wp2_with (refine store16 w2.heap.size a HN.out rfl rfl rfl rfl ?_; rw [← HW.out])
  clear HW HN
  refine wp_region_held_drew (S := fun w' => Blk w' w2.heap.size 16 23 a) (by kernel_rfl) hV (fun hS => ?_)
  have hA4 : Blk w3.drew w.heap.size 16 23 (fun _ => 0) := hA3
  have hB4 : Blk w3.drew (w.heap.size + 1) 16 23 (fun _ => 0) := hB3
  have hbel4 := hbel3.drew
  have HR4 := Lib.hid (show Rd w0.heap.size w3.drew w0.heap.size 40 from HR3.out.kept (fun _ _ => rfl))
  clear hA3 hB3 hbel3 HR3 hV
  generalize w3.drew = w4 at *
  refine wpAnyH_take (i := 0) (v := .agg (VN 16 a)) rfl (by kernel_rfl) (by kernel_rfl) (by kernel_rfl) (fun _ _ _ h => h) (yields16' w2.heap.size (fun _ h => h) (by rfl) rfl rfl) hS ?_
  refine wpAnyH_take (i := 1) (v := .pointer (some ⟨w0.heap.size, 0, none⟩)) rfl (by kernel_rfl) (by kernel_rfl) (by kernel_rfl) (fun _ _ _ h => h) (Or.inl ⟨by rfl, fun w' _ => by go_simp⟩) hS ?_
  refine wpAnyH_ready (rs := [2]) (by kernel_rfl) (by simp) ?_
  refine AllReadyH.cons rfl (fun K hK => ?_) AllReadyH.nil
  go_simp
  refine (l20Samples_any _ _ 40 9 _ HR4.out (by omega) (by omega) (by omega)).mono ?_; rintro e w5 ⟨b, rfl, hwb, hr5, hb5⟩
  have hA5 := hA4.but hb5 (by omega)
  have hB5 := hB4.but hb5 (by omega)
  have hbel5 := hbel4.trans (hb5.below (by omega) (by have := hA4.lt; omega))
  have HWb := Lib.hid hwb
  refine hK.out _ _ (hS.but hb5 (by omega)) (fun hS5 => ?_)
  clear hK K hA4 hB4 hbel4 HR4 hb5 hr5 hwb
  refine wpAnyH_ready (rs := [3]) (by kernel_rfl) (by simp) ?_
  refine AllReadyH.cons rfl (fun K hK => ?_) AllReadyH.nil
  rw [if_pos (by rfl)]
  refine wp_store_row 23 _ _ rfl w.heap.size (VN 16 a) rfl rfl 23 _ hA5 (info16 a) (by rw [VN_size, VN_size]) (VN_one _ _) ?_
  refine hK.out _ _ (hS5.setRowOther _ _ (by omega)) (fun hS6 => ?_)
  clear hK K
  refine wpAnyH_ready (rs := [4]) (by kernel_rfl) (by simp) ?_
  refine AllReadyH.cons rfl (fun K hK => ?_) AllReadyH.nil
  rw [if_pos (by rfl)]
  refine wp_store_row 23 _ _ rfl (w.heap.size + 1) (VN 16 b) rfl rfl 23 _ (hB5.setRowOther w.heap.size (VN 16 a) (by omega)) (info16 b) (by rw [VN_size, VN_size]) (VN_one _ _) ?_
  refine hK.out _ _ (hS6.setRowOther _ _ (by omega)) (fun _ => ?_)
  clear hK K
  refine wpAnyH_done (by kernel_rfl) ?_ _
  have hR1 := (hA5.setRow a).setRowOther (w.heap.size + 1) (VN 16 b) (by omega)
  have hR2 := (hB5.setRowOther w.heap.size (VN 16 a) (by omega)).setRow b
  have hR3 := below_setRow (below_setRow hbel5 (Nat.le_refl _) (VN 16 a)) (g := w.heap.size + 1) (by omega) (VN 16 b)
  clear hS hS5 hS6 hA5 hB5 hbel5
  go_wp2_with fail
  exact ret16t2 w.heap.size (w.heap.size + 1) Try.results19 hR1 hR2 rfl rfl rfl ⟨a, b, rfl, HWa, HWb, hR3⟩
end Go.Proofs.Ytammofbncdmccaa
