/- Contract of the reference's BlockOf. -/
import Derived.Test.YtogmlcmajecpgaaBlockOf
namespace Go.Proofs.Ytogmlcmajecpgaa
open Go.RowKit

theorem l1InR_any (n lo hi : Int) (w : World) : Calls Try.prog 34 #[.int .i64 n, .int .i64 lo, .int .i64 hi] w fun e w' => e = .returned (.bool (decide (lo ≤ n ∧ n ≤ hi))) ∧ w = w' := by
  go_enter Try.func34, Try.ntmps34
  by_cases h : lo ≤ n
  · have h1 : decide (lo ≤ n ∧ n ≤ hi) = decide (n ≤ hi) := by simp [h]
    rw [h1]
    go_wp2
    go_ret
    exact ⟨rfl, rfl⟩
  · have h1 : decide (lo ≤ n ∧ n ≤ hi) = false := by simp [h]
    rw [h1]
    go_wp2
    go_ret
    exact ⟨rfl, rfl⟩
set_option maxRecDepth 100000 in
set_option maxHeartbeats 2000000 in
theorem sBlockOf_any (v : Value) (l : List (Int × Int)) (w : World) (h : SrR w.heap.size w v l) (hn : l.length ≤ 1000000000000) :
    Calls Try.prog 21 #[v] w (BoGave l w) := by
  obtain ⟨a0, cap, rfl, _, hc⟩ := h
  obtain ⟨n, hl⟩ : ∃ n, l.length = n := ⟨_, rfl⟩
  rw [hl] at hc hn ⊢
  have HC := Lib.hid hc; clear hc
  have HL := Lib.hid hl; clear hl
  have HNZ := Lib.hid (show Blk ((w.alloc (.cells #[.int .i64 0, .int .i64 0, .int .i64 0, .int .i64 0, .int .i64 0, .int .i64 0, .int .i64 0, .int .i64 0, .int .i64 0, .int .i64 0, .int .i64 0, .int .i64 0, .int .i64 0, .int .i64 0, .int .i64 0, .int .i64 0] 29)).alloc (.cells #[.int .i64 0, .int .i64 0, .int .i64 0, .int .i64 0, .int .i64 0, .int .i64 0, .int .i64 0, .int .i64 0, .int .i64 0, .int .i64 0, .int .i64 0, .int .i64 0, .int .i64 0, .int .i64 0, .int .i64 0, .int .i64 0] 29)) (w.heap.size + 1) 16 29 (fun _ => 0) by rw [← zero16]; exact Blk.new' (by simp))
  obtain ⟨w0, hw0⟩ : ∃ w0, w0 = ((w.alloc (.cells #[.int .i64 0, .int .i64 0, .int .i64 0, .int .i64 0, .int .i64 0, .int .i64 0, .int .i64 0, .int .i64 0, .int .i64 0, .int .i64 0, .int .i64 0, .int .i64 0, .int .i64 0, .int .i64 0, .int .i64 0, .int .i64 0] 29)).alloc (.cells #[.int .i64 0, .int .i64 0, .int .i64 0, .int .i64 0, .int .i64 0, .int .i64 0, .int .i64 0, .int .i64 0, .int .i64 0, .int .i64 0, .int .i64 0, .int .i64 0, .int .i64 0, .int .i64 0, .int .i64 0, .int .i64 0] 29)).setRow (w.heap.size + 1) (VN 16 fun _ => 0) := ⟨_, rfl⟩
  have hA : Blk w0 w.heap.size 16 29 (fun _ => 0) := by rw [hw0]; exact Blk.setRowOther (by rw [← zero16]; exact (Blk.new' rfl).alloc _) _ _ (by omega)
  have hB : Blk w0 (w.heap.size + 1) 16 29 (fun _ => 0) := by rw [hw0]; exact HNZ.out.setRow _
  have hbel : Below w.heap.size w w0 := by rw [hw0]; exact below_setRow (((Below.refl _ _).alloc (Nat.le_refl _) _).alloc (by simp) _) (by omega) _
  have HW := Lib.hid hw0; clear hw0
  go_enter Try.func21, Try.ntmps21
  go_wp2_with (refine store16z (w.heap.size + 1) HNZ.out rfl rfl rfl rfl ?_; rw [← HW.out])
  clear HW HNZ
  refine (sScanOrder_any _).mono ?_; rintro e w1 ⟨sv, rfl, hO, hb1⟩
  have hA1 := hA.below hb1 hA.lt
  have hB1 := hB.below hb1 hB.lt
  have hs1 := hB1.lt
  have hs0 := hB.lt
  have hbel1 := hbel.trans (hb1.mono hbel.size)
  clear hA hB hbel hb1
  obtain ⟨oa, oc, rfl, hoc, hO⟩ := hO
  obtain ⟨q, oo, rfl, ho1, ho2, hO⟩ := hO (by omega)
  have hq : w.heap.size + 1 < q := by omega
  by_cases h16 : 16 < n
  · have HF := Lib.hid (BoGave.no (boTo_long (l := l) (by rw [HL.out]; exact h16)) (below_setRow hbel1 (Nat.le_refl _) (VN 16 fun _ => 0)))
    clear HC hO hbel1
    have h16' : (16 : Int) < (n : Int) := by omega
    go_wp2_with (first | refine load16 (w.heap.size + 1) hB1 rfl rfl rfl ?_ | refine store16 w.heap.size _ hA1 rfl rfl rfl rfl ?_)
    exact ret16t w.heap.size Try.results21 (hA1.setRow _) rfl rfl rfl HF.out
  have h16' : ¬ (16 : Int) < (n : Int) := by omega
  have HO := Lib.hid hO; clear hO
  go_wp2_with fail
  go_loopw [6, 7] (fun z i wr => ∃ (k a : Nat) (b : Nat → Int), k ≤ n ∧ i = .int .i64 k ∧ z = .int .i64 a ∧ a ≤ 16 ∧ Hid (boTo (l.take k) = some (a, b)) ∧ Blk wr w.heap.size 16 29 (fun _ => 0) ∧ Blk wr (w.heap.size + 1) 16 29 b ∧ wr.heap[q]? = w1.heap[q]? ∧ Below w.heap.size w wr) (fun _ i _ => n - (intOf i).toNat)
  case atStart => exact ⟨0, 0, _, by omega, rfl, rfl, by omega, Lib.hid rfl, hA1, hB1, rfl, hbel1⟩
  case round =>
    clear hA1 hB1 hbel1
    obtain ⟨k, a, b, hk, rfl, rfl, ha, HT, hA, hB, hqq, hbel⟩ := hrel
    by_cases hlt : k < n
    · obtain ⟨g, off, rfl, hg, hcell⟩ := HC.out (by omega)
      have c1 := (hbel.cell (p := ⟨g, off + k * 2, none⟩) hg).trans (hcell k hlt).1
      have c2 := (hbel.cell (p := ⟨g, off + k * 2 + 1, none⟩) hg).trans (hcell k hlt).2
      have hgl : g < wr.heap.size := Nat.lt_of_lt_of_le hg hbel.size
      have hk1 : (k : Int) < n := by omega
      have hk0 : (0 : Int) ≤ k := by omega
      obtain ⟨x, hx⟩ : ∃ x, zr l k = x := ⟨_, rfl⟩
      obtain ⟨y, hy⟩ : ∃ y, lv l k = y := ⟨_, rfl⟩
      rw [hx] at c1; rw [hy] at c2
      have HX := Lib.hid hx; have HY := Lib.hid hy; clear hx hy
      clear hcell
      have ew : IntKind.i64.wrap (15 - (a : Int)) = 15 - (a : Int) := IntWalk.i64_in _ (by omega)
      by_cases hbad : y = 0 ∨ x < 0 ∨ 16 - (a : Int) ≤ x
      · have HF := Lib.hid (BoGave.no (boTo_badZ (by rw [HL.out]; exact hlt) HT.out HX.out HY.out hbad) (below_setRow hbel (Nat.le_refl _) (VN 16 fun _ => 0)))
        clear HC HT hB hqq hbel
        go_wp2_with fail
        refine (l1InR_any _ _ _ _).mono ?_; rintro e w2 ⟨rfl, rfl⟩
        by_cases x0 : 0 ≤ x ∧ x ≤ 15 - (a : Int)
        · have y0 : y = 0 := by omega
          have e0 : (y == 0) = true := by simp [y0]
          rw [decide_eq_true x0]
          clear y0 hbad x0
          go_wp2_with (refine store16z w.heap.size hA rfl rfl rfl rfl ?_)
          exact ret16t w.heap.size Try.results21 (hA.setRow _) rfl rfl rfl HF.out
        · rw [decide_eq_false x0]
          clear hbad x0
          go_wp2_with (refine store16z w.heap.size hA rfl rfl rfl rfl ?_)
          exact ret16t w.heap.size Try.results21 (hA.setRow _) rfl rfl rfl HF.out
      · have y0 : ¬ y = 0 := by omega
        have e0 : (y == 0) = false := by simp [y0]
        have x0 : 0 ≤ x := by omega
        have x2 : x < 16 - (a : Int) := by omega
        have HG := Lib.hid (boTo_goodZ (by rw [HL.out]; exact hlt) HT.out HX.out HY.out y0 x0 x2)
        obtain ⟨p, hp⟩ : ∃ p : Nat, a + x.toNat = p := ⟨_, rfl⟩
        have hp16 : p < 16 := by omega
        have ew2 : IntKind.i64.wrap ((a : Int) + x) = (p : Int) := by rw [IntWalk.i64_in _ (by omega)]; omega
        obtain ⟨m, hm⟩ : ∃ m : Nat, scN p = m := ⟨_, rfl⟩
        have hm16 : m < 16 := by rw [← hm]; exact scN_lt p hp16
        rw [hp, hm] at HG
        have hql : q < wr.heap.size := by
          rcases Nat.lt_or_ge q wr.heap.size with h | h
          · exact h
          · rw [Array.getElem?_eq_none (by omega)] at hqq
            exact absurd ho2 (by have := (Array.getElem?_eq_none_iff.1 hqq.symm); omega)
        have o1 := (World.cell?_of_block (a := ⟨q, oo + p, none⟩) hqq).trans (HO.out p hp16).1
        rw [show scF p = (m : Int) by unfold scF; rw [hm]] at o1
        have hm1 : (m : Int) < 16 := by omega
        have hp1 : (p : Int) < 16 := by omega
        have hd : decide (0 ≤ x ∧ x ≤ 15 - (a : Int)) = true := decide_eq_true (by omega)
        clear HT HX HY hbad hm hp
        go_wp2_with fail
        refine (l1InR_any _ _ _ _).mono ?_; rintro e w2 ⟨rfl, rfl⟩
        rw [hd]
        clear hd
        go_wp2_with fail
        refine wp_region_lo 9 (fun _ w' => Below wr.heap.size wr w') (fun w1 w2 => Below w1.heap.size w1 w2) [(fun _ v => v = .slice (some ⟨q, oo, none⟩) 16 oc), (fun _ v => v = .int .i64 (p : Int)), (fun _ v => v = .pointer (some ⟨q, oo + p, none⟩)), (fun _ v => v = .int .i64 (m : Int)), (fun _ v => v = .slice (some ⟨g, off, none⟩) n cap), (fun _ v => v = .int .i64 (k : Int)), (fun _ v => v = .pointer (some ⟨g, off + k * 2, none⟩)), (fun _ v => v = .pointer (some ⟨g, off + k * 2 + 1, none⟩)), (fun _ v => v = .int .i64 y)] (by kernel_rfl) (by kernel_rfl) (Below.refl _ _).drew ?_ ?_ ?_
        · intro V hV w1 w2 v hv hr
          simp only [List.mem_cons, List.not_mem_nil, or_false] at hV
          rcases hV with rfl | rfl | rfl | rfl | rfl | rfl | rfl | rfl | rfl
          · exact hv
          · exact hv
          · exact hv
          · exact hv
          · exact hv
          · exact hv
          · exact hv
          · exact hv
          · exact hv
        · refine ⟨?_, ?_, ?_, ?_, ?_, ?_, ?_, ?_, ?_, trivial⟩
          · intro vs k1 w1 hk1 hS1 hd fb hb K hK
            replace hb : fb = _ := hb
            subst hb
            go_simp
            exact hK.out _ _ hS1 (Below.refl _ _) rfl
          · intro vs k1 w1 hk1 hS1 hd fb hb K hK
            replace hb : fb = _ := hb
            subst hb
            go_simp
            exact hK.out _ _ hS1 (Below.refl _ _) rfl
          · intro vs k1 w1 hk1 hS1 hd fb hb K hK
            obtain ⟨d0, d1, _⟩ := hd
            replace hb : fb = Act.put (Act.put (_) (some 45) (vs 0)) (some 46) (vs 1) := hb
            have e0 : vs 0 = .slice (some ⟨q, oo, none⟩) 16 oc := d0
            rw [e0] at hb; clear e0 d0
            have e1 : vs 1 = .int .i64 (p : Int) := d1
            rw [e1] at hb; clear e1 d1
            subst hb
            go_simp
            exact hK.out _ _ hS1 (Below.refl _ _) rfl
          · intro vs k1 w1 hk1 hS1 hd fb hb K hK
            obtain ⟨d2, _⟩ := hd
            replace hb : fb = Act.put (_) (some 47) (vs 2) := hb
            have e2 : vs 2 = .pointer (some ⟨q, oo + p, none⟩) := d2
            rw [e2] at hb; clear e2 d2
            subst hb
            have e1 := (hS1.cell (p := _) hql).trans o1
            go_simp
            exact hK.out _ _ hS1 (Below.refl _ _) rfl
          · intro vs k1 w1 hk1 hS1 hd fb hb K hK
            replace hb : fb = _ := hb
            subst hb
            go_simp
            exact hK.out _ _ hS1 (Below.refl _ _) rfl
          · intro vs k1 w1 hk1 hS1 hd fb hb K hK
            replace hb : fb = _ := hb
            subst hb
            go_simp
            exact hK.out _ _ hS1 (Below.refl _ _) rfl
          · intro vs k1 w1 hk1 hS1 hd fb hb K hK
            obtain ⟨d4, d5, _⟩ := hd
            replace hb : fb = Act.put (Act.put (_) (some 49) (vs 4)) (some 50) (vs 5) := hb
            have e4 : vs 4 = .slice (some ⟨g, off, none⟩) n cap := d4
            rw [e4] at hb; clear e4 d4
            have e5 : vs 5 = .int .i64 (k : Int) := d5
            rw [e5] at hb; clear e5 d5
            subst hb
            go_simp
            exact hK.out _ _ hS1 (Below.refl _ _) rfl
          · intro vs k1 w1 hk1 hS1 hd fb hb K hK
            obtain ⟨d6, _⟩ := hd
            replace hb : fb = Act.put (_) (some 51) (vs 6) := hb
            have e6 : vs 6 = .pointer (some ⟨g, off + k * 2, none⟩) := d6
            rw [e6] at hb; clear e6 d6
            subst hb
            go_simp
            exact hK.out _ _ hS1 (Below.refl _ _) rfl
          · intro vs k1 w1 hk1 hS1 hd fb hb K hK
            obtain ⟨d7, _⟩ := hd
            replace hb : fb = Act.put (_) (some 52) (vs 7) := hb
            have e7 : vs 7 = .pointer (some ⟨g, off + k * 2 + 1, none⟩) := d7
            rw [e7] at hb; clear e7 d7
            subst hb
            have e1 := (hS1.cell (p := _) hgl).trans c2
            go_simp
            exact hK.out _ _ hS1 (Below.refl _ _) rfl
        · intro vs w1 hS1 hd fb hb
          obtain ⟨d0, d1, d2, d3, d4, d5, d6, d7, d8, _⟩ := hd
          replace hb : fb = Act.put (Act.put (Act.put (Act.put (Act.put (Act.put (Act.put (Act.put (Act.put (_) (some 45) (vs 0)) (some 46) (vs 1)) (some 47) (vs 2)) (some 48) (vs 3)) (some 49) (vs 4)) (some 50) (vs 5)) (some 51) (vs 6)) (some 52) (vs 7)) (some 53) (vs 8) := hb
          have e0 : vs 0 = .slice (some ⟨q, oo, none⟩) 16 oc := d0
          rw [e0] at hb; clear e0 d0
          have e1 : vs 1 = .int .i64 (p : Int) := d1
          rw [e1] at hb; clear e1 d1
          have e2 : vs 2 = .pointer (some ⟨q, oo + p, none⟩) := d2
          rw [e2] at hb; clear e2 d2
          have e3 : vs 3 = .int .i64 (m : Int) := d3
          rw [e3] at hb; clear e3 d3
          have e4 : vs 4 = .slice (some ⟨g, off, none⟩) n cap := d4
          rw [e4] at hb; clear e4 d4
          have e5 : vs 5 = .int .i64 (k : Int) := d5
          rw [e5] at hb; clear e5 d5
          have e6 : vs 6 = .pointer (some ⟨g, off + k * 2, none⟩) := d6
          rw [e6] at hb; clear e6 d6
          have e7 : vs 7 = .pointer (some ⟨g, off + k * 2 + 1, none⟩) := d7
          rw [e7] at hb; clear e7 d7
          have e8 : vs 8 = .int .i64 y := d8
          rw [e8] at hb; clear e8 d8
          subst hb
          simp only [List.drop_succ_cons, List.drop_zero, Act.put, List.setIfInBounds_toArray, List.set_cons_succ, List.set_cons_zero]
          have hB3 := hB.below hS1 hB.lt
          have hA3 := hA.below hS1 hA.lt
          have hbel3 := hbel.trans (hS1.mono hbel.size)
          have hq3 := (hS1.block q hql).trans hqq
          have b1 := hB3.cell m hm16
          have b2 := hB3.frozen m
          have hB4 := hB3.set m y
          have hA4 := hA3.other (g' := w.heap.size + 1) (k := m) (v := .int .i64 y) (by omega)
          have hq4 := (heap_setCell_other _ ⟨w.heap.size + 1, m, none⟩ q (.int .i64 y) (by simp; omega)).trans hq3
          have hbel4 := hbel3.setCell (p := ⟨w.heap.size + 1, m, none⟩) (by simp) (.int .i64 y)
          clear hB hA hqq hbel hB3 hA3 hq3 hbel3 hS1 o1 c1 c2
          have en : IntKind.i64.wrap ((n : Int) - 1) = (n : Int) - 1 := IntWalk.i64_in _ (by omega)
          by_cases hp15 : p = 15
          · subst hp15
            by_cases hkl : k + 1 < n
            · have hkl' : (k : Int) < (n : Int) - 1 := by omega
              have HF := Lib.hid (BoGave.no (boTo_full (by rw [HL.out]; exact hkl) HG.out) (below_setRow hbel4 (Nat.le_refl _) (VN 16 fun _ => 0)))
              clear HC HG hB4 hq4 hbel4
              go_wp2_with (refine store16z w.heap.size hA4 rfl rfl rfl rfl ?_)
              exact ret16t w.heap.size Try.results21 (hA4.setRow _) rfl rfl rfl HF.out
            · have hkl' : ¬ (k : Int) < (n : Int) - 1 := by omega
              go_wp2_with fail
              go_roundw
              case rel => exact ⟨k + 1, 16, _, by omega, by go_num, by go_num, by omega, HG, hA4, hB4, hq4, hbel4⟩
              case measure => simp [intOf]; omega
          · have e15 : (((p : Int) + 1) == 16) = false := by simp; omega
            go_wp2_with fail
            go_roundw
            case rel => exact ⟨k + 1, p + 1, _, by omega, by go_num, by go_num, by omega, HG, hA4, hB4, hq4, hbel4⟩
            case measure => simp [intOf]; omega
    · obtain rfl : k = n := by omega
      have HF := Lib.hid (BoGave.yes (by have := HT.out; rw [List.take_of_length_le (by rw [HL.out]; exact Nat.le_refl _)] at this; exact this) (below_setRow hbel (Nat.le_refl _) (VN 16 b)))
      clear HC HT hbel
      go_wp2_with (first | refine load16 (w.heap.size + 1) hB rfl rfl rfl ?_ | refine store16 w.heap.size b hA rfl rfl rfl rfl ?_)
      exact ret16t w.heap.size Try.results21 (hA.setRow _) rfl rfl rfl HF.out
end Go.Proofs.Ytogmlcmajecpgaa
