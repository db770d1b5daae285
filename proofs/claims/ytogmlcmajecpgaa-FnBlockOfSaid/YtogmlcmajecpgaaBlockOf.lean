/- Contracts of BlockOf. -/
import Derived.Test.YtogmlcmajecpgaaRuns2
import Derived.Test.YtogmlcmajecpgaaDrawBlock2
namespace Go.Proofs.Ytogmlcmajecpgaa
open Go.RowKit

theorem boTo_goodZ {l : List (Int × Int)} {k : Nat} (hk : k < l.length) {a : Nat} {b : Nat → Int} (h : boTo (l.take k) = some (a, b)) {x y : Int} (hx : zr l k = x) (hy : lv l k = y) (h1 : y ≠ 0) (h2 : 0 ≤ x) (h3 : x < 16 - (a : Int)) :
    boTo (l.take (k + 1)) = some (a + x.toNat + 1, fun i => if i = scN (a + x.toNat) then y else b i) := by
  rw [zr_at hk] at hx
  rw [lv_at hk] at hy
  subst hx hy
  exact boTo_good hk h h1 h2 h3
theorem boTo_badZ {l : List (Int × Int)} {k : Nat} (hk : k < l.length) {a : Nat} {b : Nat → Int} (h : boTo (l.take k) = some (a, b)) {x y : Int} (hx : zr l k = x) (hy : lv l k = y) (hb : y = 0 ∨ x < 0 ∨ 16 - (a : Int) ≤ x) : boTo l = none := by
  rw [zr_at hk] at hx
  rw [lv_at hk] at hy
  subst hx hy
  exact boTo_bad hk h hb
/-- BlockOf's outcome. -/
def BoGave (l : List (Int × Int)) (w : World) (e : Ending) (w' : World) : Prop := e = .returned (.tuple #[.agg (VN 16 (boB l)), .bool (boOk l)]) ∧ Below w.heap.size w w'
theorem BoGave.no {l : List (Int × Int)} {w w' : World} (h : boTo l = none) (hb : Below w.heap.size w w') : BoGave l w (.returned (.tuple #[.agg (VN 16 fun _ => 0), .bool false])) w' := ⟨by rw [boB_none h, boOk_none h], hb⟩
theorem BoGave.yes {l : List (Int × Int)} {w w' : World} {a : Nat} {b : Nat → Int} (h : boTo l = some (a, b)) (hb : Below w.heap.size w w') : BoGave l w (.returned (.tuple #[.agg (VN 16 b), .bool true])) w' := ⟨by rw [boB_some h, boOk_some h], hb⟩
set_option maxRecDepth 100000 in
set_option maxHeartbeats 2000000 in
theorem iBlockOf_any (v : Value) (l : List (Int × Int)) (w : World) (h : SrR w.heap.size w v l) (hn : l.length ≤ 1000000000000) :
    Calls Try.prog 23 #[v] w (BoGave l w) := by
  obtain ⟨a0, cap, rfl, _, hc⟩ := h
  obtain ⟨n, hl⟩ : ∃ n, l.length = n := ⟨_, rfl⟩
  rw [hl] at hc hn ⊢
  have HC := Lib.hid hc; clear hc
  have HL := Lib.hid hl; clear hl
  obtain ⟨w0, hw0⟩ : ∃ w0, w0 = (w.alloc (.cells #[.int .i64 0, .int .i64 0, .int .i64 0, .int .i64 0, .int .i64 0, .int .i64 0, .int .i64 0, .int .i64 0, .int .i64 0, .int .i64 0, .int .i64 0, .int .i64 0, .int .i64 0, .int .i64 0, .int .i64 0, .int .i64 0] 29)).alloc (.cells #[.int .i64 0, .int .i64 0, .int .i64 0, .int .i64 0, .int .i64 0, .int .i64 0, .int .i64 0, .int .i64 0, .int .i64 0, .int .i64 0, .int .i64 0, .int .i64 0, .int .i64 0, .int .i64 0, .int .i64 0, .int .i64 0] 29) := ⟨_, rfl⟩
  have hA : Blk w0 w.heap.size 16 29 (fun _ => 0) := by rw [hw0, ← zero16]; exact (Blk.new' rfl).alloc _
  have hB : Blk w0 (w.heap.size + 1) 16 29 (fun _ => 0) := by rw [hw0, ← zero16]; exact Blk.new' (by simp)
  have hbel : Below w.heap.size w w0 := by rw [hw0]; exact ((Below.refl _ _).alloc (Nat.le_refl _) _).alloc (by simp) _
  have HW := Lib.hid hw0; clear hw0
  go_enter Try.func23, Try.ntmps23
  go_wp2_with fail
  rw [← HW.out]; clear HW
  refine (scanOrder_any _).mono ?_; rintro e w1 ⟨rfl, hb1⟩
  have hA1 := hA.below hb1 hA.lt
  have hB1 := hB.below hb1 hB.lt
  have hs1 := hB1.lt
  have hbel1 := hbel.trans (hb1.mono hbel.size)
  clear hA hB hbel hb1
  have HN := Lib.hid (show Blk (w1.alloc (.cells #[.int .i64 0, .int .i64 0, .int .i64 0, .int .i64 0, .int .i64 0, .int .i64 0, .int .i64 0, .int .i64 0, .int .i64 0, .int .i64 0, .int .i64 0, .int .i64 0, .int .i64 0, .int .i64 0, .int .i64 0, .int .i64 0] 29)) w1.heap.size 16 29 (fun _ => 0) by rw [← zero16]; exact Blk.new' rfl)
  obtain ⟨q, hq⟩ : ∃ q, w1.heap.size = q := ⟨_, rfl⟩
  obtain ⟨w3, hw3⟩ : ∃ w3, w3 = (w1.alloc (.cells #[.int .i64 0, .int .i64 0, .int .i64 0, .int .i64 0, .int .i64 0, .int .i64 0, .int .i64 0, .int .i64 0, .int .i64 0, .int .i64 0, .int .i64 0, .int .i64 0, .int .i64 0, .int .i64 0, .int .i64 0, .int .i64 0] 29)).setRow w1.heap.size (VN 16 scF) := ⟨_, rfl⟩
  have hO : Blk w3 q 16 29 scF := by rw [hw3, ← hq]; exact HN.out.setRow _
  have hb3 : Below w1.heap.size w1 w3 := by rw [hw3]; exact below_setRow ((Below.refl _ _).alloc (Nat.le_refl _) _) (Nat.le_refl _) _
  have hA3 := hA1.below hb3 hA1.lt
  have hB3 := hB1.below hb3 hB1.lt
  have hbel3 := hbel1.trans (hb3.mono hbel1.size)
  have hqs : w.heap.size + 1 < q := by omega
  have HQ := Lib.hid hq
  have HW := Lib.hid hw3
  clear hw3 hb3 hq hA1 hB1 hbel1
  go_wp2_with (refine store16 w1.heap.size scF HN.out rfl rfl rfl rfl ?_; rw [← HW.out, HQ.out])
  clear HW HN HQ hs1
  go_loopw [6, 12] (fun z i wr => ∃ (k a : Nat) (b : Nat → Int), k ≤ n ∧ i = .int .i64 k ∧ z = .int .i64 a ∧ a ≤ 16 ∧ Hid (boTo (l.take k) = some (a, b)) ∧ Blk wr w.heap.size 16 29 (fun _ => 0) ∧ Blk wr (w.heap.size + 1) 16 29 b ∧ Blk wr q 16 29 scF ∧ Below w.heap.size w wr) (fun _ i _ => n - (intOf i).toNat)
  case atStart => exact ⟨0, 0, _, by omega, rfl, rfl, by omega, Lib.hid rfl, hA3, hB3, hO, hbel3⟩
  case round =>
    clear hA3 hB3 hO hbel3
    obtain ⟨k, a, b, hk, rfl, rfl, ha, HT, hA, hB, hO, hbel⟩ := hrel
    by_cases hlt : k < n
    · obtain ⟨g, off, rfl, hg, hcell⟩ := HC.out (by omega)
      have c1 := (hbel.cell (p := ⟨g, off + k * 2, none⟩) hg).trans (hcell k hlt).1
      have c2 := (hbel.cell (p := ⟨g, off + k * 2 + 1, none⟩) hg).trans (hcell k hlt).2
      have hk1 : (k : Int) < n := by omega
      have hk0 : (0 : Int) ≤ k := by omega
      obtain ⟨x, hx⟩ : ∃ x, zr l k = x := ⟨_, rfl⟩
      obtain ⟨y, hy⟩ : ∃ y, lv l k = y := ⟨_, rfl⟩
      rw [hx] at c1; rw [hy] at c2
      have HX := Lib.hid hx; have HY := Lib.hid hy; clear hx hy
      clear hcell
      have ew : IntKind.i64.wrap (16 - (a : Int)) = 16 - (a : Int) := IntWalk.i64_in _ (by omega)
      have hA2 := hA.alloc (.cells #[.int .i64 x, .int .i64 y] 48)
      have hbel2 := hbel.alloc hbel.size (.cells #[.int .i64 x, .int .i64 y] 48)
      by_cases hbad : y = 0 ∨ x < 0 ∨ 16 - (a : Int) ≤ x
      · have HF := Lib.hid (BoGave.no (boTo_badZ (by rw [HL.out]; exact hlt) HT.out HX.out HY.out hbad) (below_setRow hbel2 (Nat.le_refl _) (VN 16 fun _ => 0)))
        clear HC HT hB hO hbel2 hbel hA
        by_cases y0 : y = 0
        · have e0 : (y == 0) = true := by simp [y0]
          clear y0 hbad
          go_wp2_with (refine store16z w.heap.size hA2 rfl rfl rfl rfl ?_)
          exact ret16t w.heap.size Try.results23 (hA2.setRow _) rfl rfl rfl HF.out
        · have e0 : (y == 0) = false := by simp [y0]
          by_cases x0 : x < 0
          · go_wp2_with (refine store16z w.heap.size hA2 rfl rfl rfl rfl ?_)
            exact ret16t w.heap.size Try.results23 (hA2.setRow _) rfl rfl rfl HF.out
          · have x2 : 16 - (a : Int) ≤ x := by omega
            go_wp2_with (refine store16z w.heap.size hA2 rfl rfl rfl rfl ?_)
            exact ret16t w.heap.size Try.results23 (hA2.setRow _) rfl rfl rfl HF.out
      · have y0 : ¬ y = 0 := by omega
        have e0 : (y == 0) = false := by simp [y0]
        have x0 : 0 ≤ x := by omega
        have x2 : x < 16 - (a : Int) := by omega
        have HG := Lib.hid (boTo_goodZ (by rw [HL.out]; exact hlt) HT.out HX.out HY.out y0 x0 x2)
        obtain ⟨p, hp⟩ : ∃ p : Nat, a + x.toNat = p := ⟨_, rfl⟩
        have hp16 : p < 16 := by omega
        have ew2 : IntKind.i64.wrap ((a : Int) + x) = (p : Int) := by rw [IntWalk.i64_in _ (by omega)]; omega
        obtain ⟨m, hm⟩ : ∃ m : Nat, scN p = m := ⟨_, rfl⟩
        have hm16 : m < 16 := by rw [← hm]; exact scN_lt p hp16
        rw [hp, hm] at HG
        have hB2 := hB.alloc (.cells #[.int .i64 x, .int .i64 y] 48)
        have hO2 := hO.alloc (.cells #[.int .i64 x, .int .i64 y] 48)
        have o1 := hO2.cell p hp16
        rw [show scF p = (m : Int) by unfold scF; rw [hm]] at o1
        have r1 : (wr.alloc (.cells #[.int .i64 x, .int .i64 y] 48)).cell? ⟨wr.heap.size, 1, none⟩ = some (.int .i64 y) := by rw [cell_of_row _ _ 1 _ _ _ (heap_alloc_new wr _)]; rfl
        have hm1 : (m : Int) < 16 := by omega
        have hp1 : (p : Int) < 16 := by omega
        clear HT HX HY hA hB hO hbel hbad hm hp
        go_wp2_with fail
        refine wp_region_lo 5 (fun _ w' => Below (wr.alloc (.cells #[.int .i64 x, .int .i64 y] 48)).heap.size (wr.alloc (.cells #[.int .i64 x, .int .i64 y] 48)) w') (fun w1 w2 => Below w1.heap.size w1 w2) [(fun _ v => v = .int .i64 (p : Int)), (fun _ v => v = .pointer (some ⟨q, p, none⟩)), (fun _ v => v = .int .i64 (m : Int)), (fun _ v => v = .pointer (some ⟨wr.heap.size, 1, none⟩)), (fun _ v => v = .int .i64 y)] (by kernel_rfl) (by kernel_rfl) (Below.refl _ _).drew ?_ ?_ ?_
        · intro V hV w1 w2 v hv hr
          simp only [List.mem_cons, List.not_mem_nil, or_false] at hV
          rcases hV with rfl | rfl | rfl | rfl | rfl
          · exact hv
          · exact hv
          · exact hv
          · exact hv
          · exact hv
        · refine ⟨?_, ?_, ?_, ?_, ?_, trivial⟩
          · intro vs k1 w1 hk1 hS1 hd fb hb K hK
            replace hb : fb = _ := hb
            subst hb
            go_simp
            exact hK.out _ _ hS1 (Below.refl _ _) rfl
          · intro vs k1 w1 hk1 hS1 hd fb hb K hK
            obtain ⟨d0, _⟩ := hd
            replace hb : fb = Act.put (_) (some 36) (vs 0) := hb
            have e0 : vs 0 = .int .i64 (p : Int) := d0
            rw [e0] at hb; clear e0 d0
            subst hb
            go_simp
            exact hK.out _ _ hS1 (Below.refl _ _) rfl
          · intro vs k1 w1 hk1 hS1 hd fb hb K hK
            obtain ⟨d1, _⟩ := hd
            replace hb : fb = Act.put (_) (some 37) (vs 1) := hb
            have e1 : vs 1 = .pointer (some ⟨q, p, none⟩) := d1
            rw [e1] at hb; clear e1 d1
            subst hb
            have e1 := (hS1.cell (p := _) hO2.lt).trans o1
            go_simp
            exact hK.out _ _ hS1 (Below.refl _ _) rfl
          · intro vs k1 w1 hk1 hS1 hd fb hb K hK
            replace hb : fb = _ := hb
            subst hb
            go_simp
            exact hK.out _ _ hS1 (Below.refl _ _) rfl
          · intro vs k1 w1 hk1 hS1 hd fb hb K hK
            obtain ⟨d3, _⟩ := hd
            replace hb : fb = Act.put (_) (some 39) (vs 3) := hb
            have e3 : vs 3 = .pointer (some ⟨wr.heap.size, 1, none⟩) := d3
            rw [e3] at hb; clear e3 d3
            subst hb
            have e1 := (hS1.cell (p := ⟨wr.heap.size, 1, none⟩) (by simp)).trans r1
            go_simp
            exact hK.out _ _ hS1 (Below.refl _ _) rfl
        · intro vs w1 hS1 hd fb hb
          obtain ⟨d0, d1, d2, d3, d4, _⟩ := hd
          replace hb : fb = Act.put (Act.put (Act.put (Act.put (Act.put (_) (some 36) (vs 0)) (some 37) (vs 1)) (some 38) (vs 2)) (some 39) (vs 3)) (some 40) (vs 4) := hb
          have e0 : vs 0 = .int .i64 (p : Int) := d0
          rw [e0] at hb; clear e0 d0
          have e1 : vs 1 = .pointer (some ⟨q, p, none⟩) := d1
          rw [e1] at hb; clear e1 d1
          have e2 : vs 2 = .int .i64 (m : Int) := d2
          rw [e2] at hb; clear e2 d2
          have e3 : vs 3 = .pointer (some ⟨wr.heap.size, 1, none⟩) := d3
          rw [e3] at hb; clear e3 d3
          have e4 : vs 4 = .int .i64 y := d4
          rw [e4] at hb; clear e4 d4
          subst hb
          simp only [List.drop_succ_cons, List.drop_zero, Act.put, List.setIfInBounds_toArray, List.set_cons_succ, List.set_cons_zero]
          have hB3 := hB2.below hS1 hB2.lt
          have hA3 := hA2.below hS1 hA2.lt
          have hO3 := hO2.below hS1 hO2.lt
          have hbel3 := hbel2.trans (hS1.mono hbel2.size)
          have b1 := hB3.cell m hm16
          have b2 := hB3.frozen m
          have hB4 := hB3.set m y
          have hA4 := hA3.other (g' := w.heap.size + 1) (k := m) (v := .int .i64 y) (by omega)
          have hO4 := hO3.other (g' := w.heap.size + 1) (k := m) (v := .int .i64 y) (by omega)
          have hbel4 := hbel3.setCell (p := ⟨w.heap.size + 1, m, none⟩) (by simp) (.int .i64 y)
          clear hB2 hA2 hO2 hbel2 hB3 hA3 hO3 hbel3 hS1 o1 r1
          go_wp2_with fail
          go_roundw
          case rel => exact ⟨k + 1, p + 1, _, by omega, by go_num, by go_num, by omega, HG, hA4, hB4, hO4, hbel4⟩
          case measure => simp [intOf]; omega
    · obtain rfl : k = n := by omega
      have HF := Lib.hid (BoGave.yes (by have := HT.out; rw [List.take_of_length_le (by rw [HL.out]; exact Nat.le_refl _)] at this; exact this) (below_setRow hbel (Nat.le_refl _) (VN 16 b)))
      clear HC HT hbel
      go_wp2_with (first | refine load16 (w.heap.size + 1) hB rfl rfl rfl ?_ | refine store16 w.heap.size b hA rfl rfl rfl rfl ?_)
      exact ret16t w.heap.size Try.results23 (hA.setRow _) rfl rfl rfl HF.out
end Go.Proofs.Ytogmlcmajecpgaa
