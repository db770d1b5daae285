/- How a picture lies in memory; contracts of sideValid, NewPicture and alive. -/
import Derived.Test.YtjogdkeoadkbnaaSamples
import Derived.Test.YtjogdkeoadkbnaaMem
import Derived.Deep.OwnRows
namespace Go.Proofs.Ytjogdkeoadkbnaa
open Go.RowKit

/-- Block g holds a picture's three fields; it may be written. -/
def PicB (w : World) (g : Nat) (pw ph : Int) (v : Value) : Prop := w.heap[g]? = some (.cells #[.int .i64 pw, .int .i64 ph, v] 24 (0, 0))
theorem PicB.lt {w : World} {g : Nat} {pw ph : Int} {v : Value} (h : PicB w g pw ph v) : g < w.heap.size := (Array.getElem?_eq_some_iff.1 h).1
theorem PicB.c0 {w : World} {g : Nat} {pw ph : Int} {v : Value} (h : PicB w g pw ph v) : w.cell? ⟨g, 0, none⟩ = some (.int .i64 pw) := by rw [cell_of_row w g 0 _ _ _ h]; rfl
theorem PicB.c1 {w : World} {g : Nat} {pw ph : Int} {v : Value} (h : PicB w g pw ph v) : w.cell? ⟨g, 1, none⟩ = some (.int .i64 ph) := by rw [cell_of_row w g 1 _ _ _ h]; rfl
theorem PicB.c2 {w : World} {g : Nat} {pw ph : Int} {v : Value} (h : PicB w g pw ph v) : w.cell? ⟨g, 2, none⟩ = some v := by rw [cell_of_row w g 2 _ _ _ h]; rfl
theorem PicB.fr {w : World} {g : Nat} {pw ph : Int} {v : Value} (h : PicB w g pw ph v) (k : Nat) : w.frozen? ⟨g, k, none⟩ = false := frozen_of_row w g k _ _ h
theorem PicB.below {B : Nat} {w w' : World} {g : Nat} {pw ph : Int} {v : Value} (h : PicB w g pw ph v) (hb : Below B w w') (hB : g < B) : PicB w' g pw ph v := (hb.block g hB).trans h
theorem PicB.other {w : World} {g : Nat} {pw ph : Int} {v : Value} (h : PicB w g pw ph v) {g' k : Nat} {x : Value} (ha : g ≠ g') : PicB (w.setCell ⟨g', k, none⟩ x) g pw ph v := by
  unfold PicB
  rw [heap_setCell_other w ⟨g', k, none⟩ g x ha]; exact h
theorem PicB.alloc {w : World} {g : Nat} {pw ph : Int} {v : Value} (h : PicB w g pw ph v) (o : Obj) : PicB (w.alloc o) g pw ph v := by
  unfold PicB
  rw [Below.heap_alloc w o g h.lt]; exact h
theorem PicB.new' {w : World} {g : Nat} {pw ph : Int} {v : Value} (hg : g = w.heap.size) : PicB (w.alloc (.cells #[.int .i64 pw, .int .i64 ph, v] 24)) g pw ph v := by subst hg; exact heap_alloc_new w _
theorem PicB.setRow {w : World} {g : Nat} {pw ph : Int} {v : Value} (h : PicB w g pw ph v) (qw qh : Int) (u : Value) : PicB (w.setRow g #[.int .i64 qw, .int .i64 qh, u]) g qw qh u := heap_setRow_same w g _ _ _ h
theorem PicB.setRowOther {w : World} {g : Nat} {pw ph : Int} {v : Value} (h : PicB w g pw ph v) (g' : Nat) (cs : Array Value) (hg : g ≠ g') : PicB (w.setRow g' cs) g pw ph v := (heap_setRow_other w g' cs g hg).trans h
theorem PicB.drewN {w : World} {g : Nat} {pw ph : Int} {v : Value} (h : PicB w g pw ph v) (k : Nat) : PicB (w.drewN k) g pw ph v := h
theorem infoP (pw ph : Int) (v : Value) : (Try.prog.info? 24).map (·.size) = some (#[.int .i64 pw, .int .i64 ph, v] : Array Value).size := by kernel_rfl
theorem loadP {ops : Array Oper} {rest : List Oper} {o : Oper} {a : Act} {w : World} {Q : Exit → Act → World → Prop} {x : Operand} {pw ph : Int} {v : Value} (g : Nat) (hB : PicB w g pw ph v) (hgd : Region.wanted o (yielded ops a.tmps) = true) (ho : o.op = .load 24 x)
    (hx : a.eval x = .pointer (some ⟨g, 0, none⟩)) (h : wpList Try.prog ops Q rest (a.put o.dst (.agg #[.int .i64 pw, .int .i64 ph, v])) w) : wpList Try.prog ops Q (o :: rest) a w :=
  wpList_step fun K hK => by rw [if_pos hgd]; exact wp_load_row 24 x ho g hx 24 _ (0, 0) _ hB Try.underlying24 rfl (infoP _ _ _) (hK _ _ h)
theorem storeP {ops : Array Oper} {rest : List Oper} {o : Oper} {a : Act} {w : World} {Q : Exit → Act → World → Prop} {x y : Operand} {pw ph qw qh : Int} {v u : Value} (g : Nat) (hB : PicB w g pw ph v) (hu : u.oneCell' = true) (hgd : o.guard = none) (ho : o.op = .store 24 x y)
    (hx : a.eval x = .pointer (some ⟨g, 0, none⟩)) (hy : a.eval y = .agg #[.int .i64 qw, .int .i64 qh, u]) (h : wpList Try.prog ops Q rest (a.put o.dst undef) (w.setRow g #[.int .i64 qw, .int .i64 qh, u])) : wpList Try.prog ops Q (o :: rest) a w :=
  wpList_store_row hgd 24 x y ho g _ hx hy 24 _ hB (infoP _ _ _) rfl (by rw [Array.all_eq_true_iff_forall_mem]; intro z hz; simp at hz; rcases hz with rfl | rfl | rfl <;> first | rfl | exact hu) h
theorem retP {fn : Func} {R : Ending → World → Prop} {a : Act} {w : World} {p : Tmp} {pw ph : Int} {v : Value} (g : Nat) (hr : fn.results = #[.cell p 24]) (hB : PicB w g pw ph v) (hp : a.tmps.getD p undef = .pointer (some ⟨g, 0, none⟩)) (hd : a.defers = [])
    (hR : R (.returned (.agg #[.int .i64 pw, .int .i64 ph, v])) w) : bodyPost Try.prog fn R .ret a w :=
  bodyPost_ret (results_cell_row hr _ _ g 24 _ (0, 0) _ hp hB Try.underlying24 rfl (infoP _ _ _)) hd hR

theorem infoInt : (Try.prog.info? 3).map (fun i => (i.zero, i.size, i.bytes)) = some (some (.int .i64 0), 1, 8) := by kernel_rfl
theorem made_VN (n : Nat) : madeCells #[.int .i64 0] n = VN n (fun _ => 0) := by
  unfold madeCells VN
  apply Array.ext
  · simp
  · intro i h1 h2
    simp [Nat.mod_one]
/-- make([]int, n). -/
theorem makeInts {ops : Array Oper} {rest : List Oper} {o : Oper} {a : Act} {w : World} {Q : Exit → Act → World → Prop} {l c : Operand} {C : Int} (n : Nat) (hC : C = (n : Int)) (hn : n ≤ 1000000000000) (hgd : o.guard = none) (ho : o.op = .makeSlice 22 l c)
    (hl : a.eval l = .int .i64 C) (hc : a.eval c = .int .i64 C) (h : wpList Try.prog ops Q rest (a.put o.dst (.slice (some ⟨w.heap.size, 0, none⟩) n n)) (w.alloc (.cells (VN n fun _ => 0) 3))) : wpList Try.prog ops Q (o :: rest) a w := by
  subst hC
  refine wpList_plain hgd fun K hK' => ?_
  have hrun := run_make_row' (P := Try.prog) 22 3 (.int .i64 0) 8 Try.underlying22 infoInt rfl .i64 .i64 n (by omega) (by omega) w
  rw [made_VN] at hrun
  unfold Oper.wp
  simp [execOp, ho, hl, hc, hrun, Result.andThen]
  exact hK' _ _ h

/-- A number of columns or rows. -/
def sideB (n : Int) : Bool := decide (8 ≤ n ∧ n ≤ 32 ∧ n % 8 = 0)
theorem sideValid_any (n : Int) (w : World) :
    Calls Try.prog 39 #[.int .i64 n] w fun e w' => e = .returned (.bool (sideB n)) ∧ w = w' := by
  by_cases h1 : 8 ≤ n
  · by_cases h2 : n ≤ 32
    · have HT := Lib.hid (show (n % 8 == 0) = sideB n by unfold sideB; rw [Bool.eq_iff_iff]; simp; omega)
      go_enter Try.func39, Try.ntmps39
      go_wp2
      go_ret
      exact ⟨by rw [← HT.out]; rfl, rfl⟩
    · have HT := Lib.hid (show sideB n = false by unfold sideB; exact decide_eq_false (by omega))
      have h3 : decide (n ≤ 32) = false := by simp; omega
      go_enter Try.func39, Try.ntmps39
      go_wp2
      go_ret
      exact ⟨by rw [HT.out]; rfl, rfl⟩
  · have HT := Lib.hid (show sideB n = false by unfold sideB; exact decide_eq_false (by omega))
    go_enter Try.func39, Try.ntmps39
    go_wp2
    go_ret
    exact ⟨by rw [HT.out]; rfl, rfl⟩
/-- The arguments make a picture. -/
def newB (pw ph v : Int) : Bool := sideB pw && sideB ph && decide (0 ≤ v ∧ v ≤ 255)
/-- What NewPicture leaves: a picture in new memory, all of whose samples are v; or the zero value. -/
def NewP (pw ph v : Int) (w : World) (e : Ending) (w' : World) : Prop :=
  if newB pw ph v then ∃ g, e = .returned (.agg #[.int .i64 pw, .int .i64 ph, .slice (some ⟨g, 0, none⟩) (pw * ph).toNat (pw * ph).toNat]) ∧ w.heap.size ≤ g ∧ Blk w' g (pw * ph).toNat 3 (fun _ => v) ∧ Below w.heap.size w w'
  else e = .returned (.agg #[.int .i64 0, .int .i64 0, .slice none 0 0]) ∧ Below w.heap.size w w'
theorem side_mul (a b : Int) (ha : sideB a = true) (hb : sideB b = true) : 64 ≤ a * b ∧ a * b ≤ 1024 := by
  have h1 := of_decide_eq_true ha
  have h2 := of_decide_eq_true hb
  have e1 : a * 8 ≤ a * b := Int.mul_le_mul_of_nonneg_left h2.1 (by omega)
  have e2 : a * b ≤ a * 32 := Int.mul_le_mul_of_nonneg_left h2.2.1 (by omega)
  omega
theorem NewPicture_any (pw ph v : Int) (w : World) :
    Calls Try.prog 13 #[.int .i64 pw, .int .i64 ph, .int .i64 v] w (NewP pw ph v w) := by
  have hP : PicB (w.alloc (.cells #[.int .i64 0, .int .i64 0, .slice none 0 0] 24)) w.heap.size 0 0 (.slice none 0 0) := PicB.new' rfl
  have hbel : Below w.heap.size w (w.alloc (.cells #[.int .i64 0, .int .i64 0, .slice none 0 0] 24)) := (Below.refl _ _).alloc (Nat.le_refl _) _
  have bad : newB pw ph v = false → Hid (NewP pw ph v w (.returned (.agg #[.int .i64 0, .int .i64 0, .slice none 0 0])) ((w.alloc (.cells #[.int .i64 0, .int .i64 0, .slice none 0 0] 24)).setRow w.heap.size #[.int .i64 0, .int .i64 0, .slice none 0 0])) := by
    intro h
    show NewP _ _ _ _ _ _
    unfold NewP
    rw [h]
    exact ⟨rfl, below_setRow hbel (Nat.le_refl _) _⟩
  by_cases h1 : sideB pw = true
  · by_cases h2 : sideB ph = true
    · by_cases h3 : 0 ≤ v ∧ v ≤ 255
      · have hm := side_mul pw ph h1 h2
        have hw := of_decide_eq_true h1
        have hh := of_decide_eq_true h2
        obtain ⟨n, hn⟩ : ∃ n : Nat, pw * ph = (n : Int) := ⟨(pw * ph).toNat, by omega⟩
        have hN := Lib.hid hn
        have hn64 : 64 ≤ n ∧ n ≤ 1024 := by omega
        have good : ∀ (g : Nat) (w' : World), w.heap.size ≤ g → Blk w' g n 3 (fun _ => v) → Below w.heap.size w w' → NewP pw ph v w (.returned (.agg #[.int .i64 pw, .int .i64 ph, .slice (some ⟨g, 0, none⟩) n n])) w' := by
          intro g w' hg hb hbl
          have hb' : newB pw ph v = true := by unfold newB; rw [h1, h2, decide_eq_true h3]; rfl
          unfold NewP
          rw [hb', hn]
          exact ⟨g, rfl, hg, hb, hbl⟩
        have HG := Lib.hid good
        clear good bad hn
        obtain ⟨v0, v1⟩ := h3
        go_enter Try.func13, Try.ntmps13
        go_wp2_with fail
        refine (sideValid_any _ _).mono ?_; rintro e w' ⟨rfl, rfl⟩
        go_wp2_with fail
        refine (sideValid_any _ _).mono ?_; rintro e w' ⟨rfl, rfl⟩
        go_wp2_with fail
        refine (sampleValid_yes _ _ v0 v1).mono ?_; rintro e w' ⟨rfl, rfl⟩
        go_wp2_with (refine makeInts n (by have := hN.out; omega) (by omega) rfl rfl rfl rfl ?_)
        go_loopw [33] (fun i wr => ∃ k : Nat, k ≤ n ∧ i = .int .i64 k ∧ PicB wr w.heap.size 0 0 (.slice none 0 0) ∧ Blk wr (w.heap.size + 1) n 3 (fun i => if i < k then v else 0) ∧ PicB wr (w.heap.size + 2) pw ph (.slice (some ⟨w.heap.size + 1, 0, none⟩) n n) ∧ Below w.heap.size w wr) (fun i _ => n - (intOf i).toNat)
        case atStart =>
          exact ⟨0, by omega, rfl, (hP.alloc _).alloc _, (Blk.new' (by simp)).alloc _, PicB.new' (by simp), (hbel.alloc (by simp) _).alloc (by simp; omega) _⟩
        case round =>
          clear hP hbel
          obtain ⟨k, hk, rfl, hP, hX, hQ, hbel⟩ := hrel
          by_cases hlt : k < n
          · have c1 := hQ.c2
            have c2 := hX.cell k hlt
            have f2 := hX.frozen k
            go_wp2_with fail
            go_roundw
            case rel =>
              refine ⟨k + 1, by omega, by go_num, hP.other (by omega), (hX.set k _).congr (fun j hj => ?_), hQ.other (by omega), hbel.setCell (by simp) _⟩
              by_cases e : j = k
              · subst e; rw [if_pos rfl, if_pos (by omega)]
              · by_cases e2 : j < k
                · rw [if_neg e, if_pos e2, if_pos (by omega)]
                · rw [if_neg e, if_neg e2, if_neg (by omega)]
            case measure => simp [intOf]; omega
          · have hX' : Blk wr (w.heap.size + 1) n 3 (fun _ => v) := hX.congr (fun j hj => by rw [if_pos (by omega)])
            have HF := Lib.hid (HG.out (w.heap.size + 1) (wr.setRow w.heap.size #[.int .i64 pw, .int .i64 ph, .slice (some ⟨w.heap.size + 1, 0, none⟩) n n]) (by omega) (hX'.setRowOther _ _ (by omega)) (below_setRow hbel (Nat.le_refl _) _))
            go_wp2_with (first | refine loadP (w.heap.size + 2) hQ rfl rfl rfl ?_ | refine storeP w.heap.size hP rfl rfl rfl rfl rfl ?_)
            exact retP w.heap.size Try.results13 (hP.setRow _ _ _) rfl rfl HF.out
      · have HB := bad (by unfold newB; rw [decide_eq_false h3, Bool.and_false]); clear bad
        have H3 := Lib.hid h3; clear h3
        go_enter Try.func13, Try.ntmps13
        go_wp2_with fail
        refine (sideValid_any _ _).mono ?_; rintro e w' ⟨rfl, rfl⟩
        go_wp2_with fail
        refine (sideValid_any _ _).mono ?_; rintro e w' ⟨rfl, rfl⟩
        go_wp2_with fail
        refine (sampleValid_no _ _ (by have := H3.out; omega)).mono ?_; rintro e w' ⟨rfl, rfl⟩
        go_wp2_with (refine storeP w.heap.size hP rfl rfl rfl rfl rfl ?_)
        exact retP w.heap.size Try.results13 (hP.setRow _ _ _) rfl rfl HB.out
    · have h2 : sideB ph = false := by simpa using h2
      have HB := bad (by unfold newB; rw [h2, Bool.and_false]; rfl); clear bad
      go_enter Try.func13, Try.ntmps13
      go_wp2_with fail
      refine (sideValid_any _ _).mono ?_; rintro e w' ⟨rfl, rfl⟩
      go_wp2_with fail
      refine (sideValid_any _ _).mono ?_; rintro e w' ⟨rfl, rfl⟩
      go_wp2_with (refine storeP w.heap.size hP rfl rfl rfl rfl rfl ?_)
      exact retP w.heap.size Try.results13 (hP.setRow _ _ _) rfl rfl HB.out
  · have h1 : sideB pw = false := by simpa using h1
    have HB := bad (by unfold newB; rw [h1]; rfl); clear bad
    go_enter Try.func13, Try.ntmps13
    go_wp2_with fail
    refine (sideValid_any _ _).mono ?_; rintro e w' ⟨rfl, rfl⟩
    go_wp2_with (refine storeP w.heap.size hP rfl rfl rfl rfl rfl ?_)
    exact retP w.heap.size Try.results13 (hP.setRow _ _ _) rfl rfl HB.out
theorem fieldW (a b c : Value) (w : World) : (Instr.field 24 (.agg #[a, b, c]) 0).run Try.prog w = .ok a w := by kernel_rfl
theorem fieldH (a b c : Value) (w : World) : (Instr.field 24 (.agg #[a, b, c]) 1).run Try.prog w = .ok b w := by kernel_rfl
theorem fieldPix (a b c : Value) (w : World) : (Instr.field 24 (.agg #[a, b, c]) 2).run Try.prog w = .ok c w := by kernel_rfl

end Go.Proofs.Ytjogdkeoadkbnaa
