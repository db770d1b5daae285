/- The program's predictions. -/
import Derived.Test.YtjogdkeoadkbnaaPredict4
namespace Go.Proofs.Ytjogdkeoadkbnaa
open Go.RowKit

/-- The sample that is predicted at place i. -/
def predI (a b : Nat → Int) (c : Int) (u v : Bool) (m i : Nat) : Int :=
  if m = 0 then meanI a b u v else if m = 1 then a (i % 4) else if m = 2 then b (i / 4) else if m = 3 then (brd a b c (3 + i % 4 - i / 4) + 2 * brd a b c (4 + i % 4 - i / 4) + brd a b c (5 + i % 4 - i / 4) + 2) / 4 else clampI (a (i % 4) + b (i / 4) - c) 0 255
theorem brd_bd {a b : Nat → Int} {c : Int} (ha : ∀ k, k < 4 → 0 ≤ a k ∧ a k ≤ 255) (hb : ∀ k, k < 4 → 0 ≤ b k ∧ b k ≤ 255) (hc : 0 ≤ c ∧ c ≤ 255) (k : Nat) (hk : k < 9) : 0 ≤ brd a b c k ∧ brd a b c k ≤ 255 := by
  unfold brd
  split
  · exact hb _ (by omega)
  · split
    · exact hc
    · exact ha _ (by omega)
def fnsV : Array Value := #[.func (.func 63) #[] #[], .func (.func 64) #[] #[], .func (.func 65) #[] #[], .func (.func 66) #[] #[], .func (.func 67) #[] #[]]
/-- The method that a mode stands for, and what it answers. -/
theorem method_any (a b : Nat → Int) (c : Int) (u v : Bool) (m : Nat) (hm : m < 5) (ha : ∀ k, k < 4 → 0 ≤ a k ∧ a k ≤ 255) (hb : ∀ k, k < 4 → 0 ≤ b k ∧ b k ≤ 255) (hc : 0 ≤ c ∧ c ≤ 255) :
    ∃ f : Nat, fnsV[m]? = some (.func (.func f) #[] #[]) ∧ (∀ (A : Array Value) (w : World), (callFunc f A).run Try.prog w = .ok (.enter f A) w) ∧ ∀ k : Nat, k < 16 → ∀ w : World, Calls Try.prog f #[.agg (edgV a b c u v), .int .i64 ((k % 4 : Nat) : Int), .int .i64 ((k / 4 : Nat) : Int)] w fun e w' => e = .returned (.int .i64 (predI a b c u v m k)) ∧ Below w.heap.size w w' := by
  rcases (by omega : m = 0 ∨ m = 1 ∨ m = 2 ∨ m = 3 ∨ m = 4) with rfl | rfl | rfl | rfl | rfl
  · exact ⟨_, rfl, fun A w => by go_simp, fun k hk w => mean_any a b c u v _ _ w ha hb⟩
  · exact ⟨_, rfl, fun A w => by go_simp, fun k hk w => vertical_any a b c u v (k % 4) _ w (by omega)⟩
  · exact ⟨_, rfl, fun A w => by go_simp, fun k hk w => horizontal_any a b c u v _ (k / 4) w (by omega)⟩
  · exact ⟨_, rfl, fun A w => by go_simp, fun k hk w => diagonal_any a b c u v (k % 4) (k / 4) w (by omega) (by omega) (brd_bd ha hb hc)⟩
  · exact ⟨_, rfl, fun A w => by go_simp, fun k hk w => plane_any a b c u v (k % 4) (k / 4) w (by omega) (by omega) (ha _ (by omega)) (hb _ (by omega)) hc⟩
theorem fnsV_one : fnsV.all (·.oneCell') = true := by simp [fnsV, Value.oneCell']
set_option maxRecDepth 100000 in
set_option maxHeartbeats 2000000 in
theorem predict_any (a b : Nat → Int) (c : Int) (s t : Bool) (m : Nat) (w : World) (hm : m < 5) (ha : ∀ k, k < 4 → 0 ≤ a k ∧ a k ≤ 255) (hb : ∀ k, k < 4 → 0 ≤ b k ∧ b k ≤ 255) (hc : 0 ≤ c ∧ c ≤ 255) :
    Calls Try.prog 58 #[.agg (edgV a b c s t), .int .i64 (m : Int)] w fun e w' => e = .returned (.agg (VN 16 (predI a b c s t m))) ∧ Below w.heap.size w w' := by
  obtain ⟨f, hf, hcf, hcall⟩ := method_any a b c s t m hm ha hb hc
  have HN := Lib.hid (show (((w.alloc (.cells (edgV a b c s t) 41)).alloc (.cells #[.int .i64 0, .int .i64 0, .int .i64 0, .int .i64 0, .int .i64 0, .int .i64 0, .int .i64 0, .int .i64 0, .int .i64 0, .int .i64 0, .int .i64 0, .int .i64 0, .int .i64 0, .int .i64 0, .int .i64 0, .int .i64 0] 49)).alloc (.cells #[.nilFunc, .nilFunc, .nilFunc, .nilFunc, .nilFunc] 70)).heap[w.heap.size + 1 + 1]? = some (.cells #[.nilFunc, .nilFunc, .nilFunc, .nilFunc, .nilFunc] 70 (0, 0)) by
    have := heap_alloc_new ((w.alloc (.cells (edgV a b c s t) 41)).alloc (.cells #[.int .i64 0, .int .i64 0, .int .i64 0, .int .i64 0, .int .i64 0, .int .i64 0, .int .i64 0, .int .i64 0, .int .i64 0, .int .i64 0, .int .i64 0, .int .i64 0, .int .i64 0, .int .i64 0, .int .i64 0, .int .i64 0] 49)) (.cells #[.nilFunc, .nilFunc, .nilFunc, .nilFunc, .nilFunc] 70)
    simpa using this)
  obtain ⟨w0, hw0⟩ : ∃ w0, w0 = ((((w.alloc (.cells (edgV a b c s t) 41)).alloc (.cells #[.int .i64 0, .int .i64 0, .int .i64 0, .int .i64 0, .int .i64 0, .int .i64 0, .int .i64 0, .int .i64 0, .int .i64 0, .int .i64 0, .int .i64 0, .int .i64 0, .int .i64 0, .int .i64 0, .int .i64 0, .int .i64 0] 49)).alloc (.cells #[.nilFunc, .nilFunc, .nilFunc, .nilFunc, .nilFunc] 70)).setRow (w.heap.size + 1 + 1) #[.func (.func 63) #[] #[], .func (.func 64) #[] #[], .func (.func 65) #[] #[], .func (.func 66) #[] #[], .func (.func 67) #[] #[]]).alloc (.cells #[.int .i64 0, .int .i64 0, .int .i64 0, .int .i64 0, .int .i64 0, .int .i64 0, .int .i64 0, .int .i64 0, .int .i64 0, .int .i64 0, .int .i64 0, .int .i64 0, .int .i64 0, .int .i64 0, .int .i64 0, .int .i64 0] 49) := ⟨_, rfl⟩
  have hE : EdgB w0 w.heap.size 41 (edgV a b c s t) := by rw [hw0]; exact EdgB.alloc ((heap_setRow_other _ _ _ _ (by omega)).trans (((EdgB.new' rfl).alloc _).alloc _)) _
  have hR : Blk w0 (w.heap.size + 1) 16 49 (fun _ => 0) := by rw [hw0, ← zero16]; exact (Blk.setRowOther ((Blk.new' (by simp)).alloc _) _ _ (by omega)).alloc _
  have hF : EdgB w0 (w.heap.size + 1 + 1) 70 fnsV := by rw [hw0]; exact EdgB.alloc (heap_setRow_same _ _ _ _ _ HN.out) _
  have hB : Blk w0 (w.heap.size + 1 + 1 + 1) 16 49 (fun j => if j < 0 then predI a b c s t m j else 0) := by rw [hw0, ← zero16]; exact Blk.congr (Blk.new' (by simp)) (fun j _ => by simp)
  have hbel : Below w.heap.size w w0 := by rw [hw0]; exact (below_setRow ((((Below.refl _ _).alloc (Nat.le_refl _) _).alloc (by simp) _).alloc (by simp; omega) _) (by omega) _).alloc (by simp; omega) _
  have HW := Lib.hid hw0; clear hw0
  have hm5 : (m : Int) < 5 := by omega
  have hm0 : (0 : Int) ≤ m := by omega
  have hbt : (Try.prog.built 70 [(0, .func (.func 63) #[] #[]), (1, .func (.func 64) #[] #[]), (2, .func (.func 65) #[] #[]), (3, .func (.func 66) #[] #[]), (4, .func (.func 67) #[] #[])]).getD #[] = #[.func (.func 63) #[] #[], .func (.func 64) #[] #[], .func (.func 65) #[] #[], .func (.func 66) #[] #[], .func (.func 67) #[] #[]] := by kernel_rfl
  go_enter Try.func58, Try.ntmps58
  go_upto_region 1 with fail
  go_step
  refine wpList_build rfl 70 _ rfl (by kernel_rfl) ?_
  go_simp
  clear hbt
  go_step
  go_step
  go_step
  refine wpList_store_row rfl 70 _ _ rfl (w.heap.size + 1 + 1) fnsV rfl rfl 70 #[.nilFunc, .nilFunc, .nilFunc, .nilFunc, .nilFunc] HN.out (by kernel_rfl) rfl fnsV_one ?_
  unfold fnsV
  go_upto_region 3 with fail
  rw [← HW.out]
  clear HW HN
  go_wp2_with fail
  go_loopw [9] (fun i wr => ∃ k : Nat, k ≤ 16 ∧ i = .int .i64 k ∧ Below w.heap.size w wr ∧ EdgB wr w.heap.size 41 (edgV a b c s t) ∧ Blk wr (w.heap.size + 1) 16 49 (fun _ => 0) ∧ EdgB wr (w.heap.size + 1 + 1) 70 fnsV ∧ Blk wr (w.heap.size + 1 + 1 + 1) 16 49 (fun j => if j < k then predI a b c s t m j else 0)) (fun i _ => 16 - (intOf i).toNat)
  case atStart => exact ⟨0, by omega, rfl, hbel, hE, hR, hF, hB⟩
  case round =>
    clear hbel hE hR hF hB
    obtain ⟨k, hk, rfl, hbel, hE, hR, hF, hB⟩ := hrel
    by_cases hlt : k < 16
    · have hlt' : (k : Int) < 16 := by omega
      have hk0 : (0 : Int) ≤ k := by omega
      have hc1 := hcall k hlt
      obtain ⟨x, hx⟩ : ∃ x, k % 4 = x := ⟨_, rfl⟩
      obtain ⟨y, hy⟩ : ∃ y, k / 4 = y := ⟨_, rfl⟩
      rw [hx, hy] at hc1
      have r1 : (k : Int) % 4 = (x : Int) := by omega
      have r2 : (k : Int).tmod 4 = (x : Int) := by rw [Int.tmod_eq_emod_of_nonneg hk0]; exact r1
      have r3 : (k : Int) / 4 = (y : Int) := by omega
      have r4 : (k : Int).tdiv 4 = (y : Int) := by rw [Int.tdiv_eq_ediv_of_nonneg hk0]; exact r3
      have e5 : IntKind.i64.wrap (y : Int) = (y : Int) := IntWalk.i64_in _ (by omega)
      clear hx hy hcall
      go_upto_region 6 with fail
      refine wp_region_lo 10 (fun _ w' => Below wr.heap.size wr w') (fun w1 w2 => Below w1.heap.size w1 w2) [(fun _ v => v = .int .i64 (k : Int)), (fun _ v => v = .int .i64 (m : Int)), (fun _ v => v = .pointer (some ⟨w.heap.size + 1 + 1, m, none⟩)), (fun _ v => v = .func (.func f) #[] #[]), (fun _ v => v = .agg (edgV a b c s t)), (fun _ v => v = .int .i64 (k : Int)), (fun _ v => v = .int .i64 (x : Int)), (fun _ v => v = .int .i64 (k : Int)), (fun _ v => v = .int .i64 (y : Int)), (fun _ v => v = .int .i64 (predI a b c s t m k))] (by kernel_rfl) (by kernel_rfl) (Below.refl _ _).drew ?_ ?_ ?_
      · intro V hV w1 w2 v hv hr
        simp only [List.mem_cons, List.not_mem_nil, or_false] at hV
        rcases hV with rfl | rfl | rfl | rfl | rfl | rfl | rfl | rfl | rfl | rfl
        · exact hv
        · exact hv
        · exact hv
        · exact hv
        · exact hv
        · exact hv
        · exact hv
        · exact hv
        · exact hv
        · exact hv
      · refine ⟨?_, ?_, ?_, ?_, ?_, ?_, ?_, ?_, ?_, ?_, trivial⟩
        · intro vs k1 w1 hk1 hS1 hd fb hb K hK
          replace hb : fb = _ := hb
          subst hb
          go_simp
          exact hK.out _ _ hS1 (Below.refl _ _) rfl
        · intro vs k1 w1 hk1 hS1 hd fb hb K hK
          replace hb : fb = _ := hb
          subst hb
          go_simp
          exact hK.out _ _ hS1 (Below.refl _ _) rfl
        · intro vs k1 w1 hk1 hS1 hd fb hb K hK
          obtain ⟨d1, _⟩ := hd
          replace hb : fb = Act.put (_) (some 13) (vs 1) := hb
          have e1 : vs 1 = .int .i64 (m : Int) := d1
          rw [e1] at hb; clear e1 d1
          subst hb
          go_simp
          exact hK.out _ _ hS1 (Below.refl _ _) rfl
        · intro vs k1 w1 hk1 hS1 hd fb hb K hK
          obtain ⟨d2, _⟩ := hd
          replace hb : fb = Act.put (_) (some 14) (vs 2) := hb
          have e2 : vs 2 = .pointer (some ⟨w.heap.size + 1 + 1, m, none⟩) := d2
          rw [e2] at hb; clear e2 d2
          subst hb
          have c1 := ((hF.below hS1 hF.lt).cell m).trans hf
          go_simp
          exact hK.out _ _ hS1 (Below.refl _ _) rfl
        · intro vs k1 w1 hk1 hS1 hd fb hb K hK
          replace hb : fb = _ := hb
          subst hb
          refine wp_load_row _ _ rfl w.heap.size rfl _ _ (0, 0) _ (hE.below hS1 hE.lt) Try.underlying41 rfl (infoE _ _ _ _ _) ?_
          exact hK.out _ _ hS1 (Below.refl _ _) rfl
        · intro vs k1 w1 hk1 hS1 hd fb hb K hK
          replace hb : fb = _ := hb
          subst hb
          go_simp
          exact hK.out _ _ hS1 (Below.refl _ _) rfl
        · intro vs k1 w1 hk1 hS1 hd fb hb K hK
          obtain ⟨d5, _⟩ := hd
          replace hb : fb = Act.put (_) (some 17) (vs 5) := hb
          have e5 : vs 5 = .int .i64 (k : Int) := d5
          rw [e5] at hb; clear e5 d5
          subst hb
          go_simp
          exact hK.out _ _ hS1 (Below.refl _ _) rfl
        · intro vs k1 w1 hk1 hS1 hd fb hb K hK
          replace hb : fb = _ := hb
          subst hb
          go_simp
          exact hK.out _ _ hS1 (Below.refl _ _) rfl
        · intro vs k1 w1 hk1 hS1 hd fb hb K hK
          obtain ⟨d7, _⟩ := hd
          replace hb : fb = Act.put (_) (some 19) (vs 7) := hb
          have e7 : vs 7 = .int .i64 (k : Int) := d7
          rw [e7] at hb; clear e7 d7
          subst hb
          go_simp
          exact hK.out _ _ hS1 (Below.refl _ _) rfl
        · intro vs k1 w1 hk1 hS1 hd fb hb K hK
          obtain ⟨d3, d4, d6, d8, _⟩ := hd
          replace hb : fb = Act.put (Act.put (Act.put (Act.put (_) (some 15) (vs 3)) (some 16) (vs 4)) (some 18) (vs 6)) (some 20) (vs 8) := hb
          have e3 : vs 3 = .func (.func f) #[] #[] := d3
          rw [e3] at hb; clear e3 d3
          have e4 : vs 4 = .agg (edgV a b c s t) := d4
          rw [e4] at hb; clear e4 d4
          have e6 : vs 6 = .int .i64 (x : Int) := d6
          rw [e6] at hb; clear e6 d6
          have e8 : vs 8 = .int .i64 (y : Int) := d8
          rw [e8] at hb; clear e8 d8
          subst hb
          have hz1 := hS1.size
          go_simp
          refine (hc1 _).mono ?_; rintro e w2 ⟨rfl, hb2⟩
          exact hK.out _ _ (hS1.trans (hb2.mono (by omega))) (hb2.mono (by omega)) rfl
      · intro vs w1 hS1 hd fb hb
        obtain ⟨d0, d1, d2, d3, d4, d5, d6, d7, d8, d9, _⟩ := hd
        replace hb : fb = Act.put (Act.put (Act.put (Act.put (Act.put (Act.put (Act.put (Act.put (Act.put (Act.put (_) (some 12) (vs 0)) (some 13) (vs 1)) (some 14) (vs 2)) (some 15) (vs 3)) (some 16) (vs 4)) (some 17) (vs 5)) (some 18) (vs 6)) (some 19) (vs 7)) (some 20) (vs 8)) (some 21) (vs 9) := hb
        have e0 : vs 0 = .int .i64 (k : Int) := d0
        rw [e0] at hb; clear e0 d0
        have e1 : vs 1 = .int .i64 (m : Int) := d1
        rw [e1] at hb; clear e1 d1
        have e2 : vs 2 = .pointer (some ⟨w.heap.size + 1 + 1, m, none⟩) := d2
        rw [e2] at hb; clear e2 d2
        have e3 : vs 3 = .func (.func f) #[] #[] := d3
        rw [e3] at hb; clear e3 d3
        have e4 : vs 4 = .agg (edgV a b c s t) := d4
        rw [e4] at hb; clear e4 d4
        have e5 : vs 5 = .int .i64 (k : Int) := d5
        rw [e5] at hb; clear e5 d5
        have e6 : vs 6 = .int .i64 (x : Int) := d6
        rw [e6] at hb; clear e6 d6
        have e7 : vs 7 = .int .i64 (k : Int) := d7
        rw [e7] at hb; clear e7 d7
        have e8 : vs 8 = .int .i64 (y : Int) := d8
        rw [e8] at hb; clear e8 d8
        have e9 : vs 9 = .int .i64 (predI a b c s t m k) := d9
        rw [e9] at hb; clear e9 d9
        subst hb
        simp only [List.drop_succ_cons, List.drop_zero, Act.put, List.setIfInBounds_toArray, List.set_cons_succ, List.set_cons_zero]
        have hE3 := hE.below hS1 hE.lt
        have hR3 := hR.below hS1 hR.lt
        have hF3 := hF.below hS1 hF.lt
        have hB3 := hB.below hS1 hB.lt
        have hbel3 := hbel.trans (hS1.mono hbel.size)
        have b1 := hB3.cell k hlt
        have b2 := hB3.frozen k
        have hB4 := (hB3.set k (predI a b c s t m k)).congr (c := fun j => if j < k + 1 then predI a b c s t m j else 0) (by
          intro j hj
          by_cases h1 : j = k
          · subst h1; simp
          · by_cases h2 : j < k
            · simp [h1, h2, show j < k + 1 by omega]
            · simp [h1, h2, show ¬ j < k + 1 by omega])
        have hE4 := hE3.other (g' := w.heap.size + 1 + 1 + 1) (k := k) (v := .int .i64 (predI a b c s t m k)) (by omega)
        have hR4 := hR3.other (g' := w.heap.size + 1 + 1 + 1) (k := k) (v := .int .i64 (predI a b c s t m k)) (by omega)
        have hF4 := hF3.other (g' := w.heap.size + 1 + 1 + 1) (k := k) (v := .int .i64 (predI a b c s t m k)) (by omega)
        have hbel4 := hbel3.setCell (p := ⟨w.heap.size + 1 + 1 + 1, k, none⟩) (by simp; omega) (.int .i64 (predI a b c s t m k))
        clear hE hR hF hB hbel hE3 hR3 hF3 hB3 hbel3 hS1 hc1 hcf r1 r2 r3 r4 e5
        generalize predI a b c s t m k = z at *
        go_wp2_with fail
        go_roundw
        case rel => exact ⟨k + 1, by omega, by go_num, hbel4, hE4, hR4, hF4, hB4⟩
        case measure => simp [intOf]; omega
    · obtain rfl : k = 16 := by omega
      have hB' := hB.congr (c := predI a b c s t m) (fun j hj => if_pos hj)
      clear hB hE hF hcall hcf hf hlt
      go_wp2_with (first | (refine load16 (w.heap.size + 1 + 1 + 1) hB' rfl rfl rfl ?_) | (refine store16 (w.heap.size + 1) (predI a b c s t m) hR rfl rfl rfl rfl ?_))
      exact ret16 (w.heap.size + 1) Try.results58 (hR.setRow _) rfl rfl ⟨rfl, below_setRow hbel (by omega) _⟩
end Go.Proofs.Ytjogdkeoadkbnaa
