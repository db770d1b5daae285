/- The drawing of a block of sixteen numbers. -/
import Derived.Test.YtogmlcmajecpgaaReader
import Derived.Test.YtogmlcmajecpgaaButter
namespace Go.Proofs.Ytogmlcmajecpgaa
open Go.RowKit

theorem Blk.but {R : Nat} {w w' : World} {g n : Nat} {t : TypeId} {b : Nat → Int} (h : Blk w g n t b) (hb : But R w w') (hg : g ≠ R) : Blk w' g n t b := (hb.block g h.lt hg).trans h
theorem But.setCell {R : Nat} {a w : World} (h : But R a w) {p : Addr} (hp : a.heap.size ≤ p.block) (u : Value) : But R a (w.setCell p u) :=
  ⟨h.os, h.tape, h.output, by simp [World.setCell]; exact h.size, fun k hk hr => (Below.heap_setCell w p u k (by omega)).trans (h.block k hk hr)⟩
theorem But.setRow {R : Nat} {a w : World} (h : But R a w) {g : Nat} (hg : a.heap.size ≤ g) (cs : Array Value) : But R a (w.setRow g cs) :=
  ⟨h.os, h.tape, h.output, by simp; exact h.size, fun k hk hr => (heap_setRow_other _ _ _ _ (by omega)).trans (h.block k hk hr)⟩
theorem Rd.setCell {B : Nat} {w : World} {R m : Nat} (h : Rd B w R m) {p : Addr} (hp : R < p.block) (u : Value) : Rd B (w.setCell p u) R m := h.kept fun g hg => Below.heap_setCell w p u g (by omega)
theorem Rd.setRow {B : Nat} {w : World} {R m : Nat} (h : Rd B w R m) {g : Nat} (hg : R < g) (cs : Array Value) : Rd B (w.setRow g cs) R m := h.kept fun i hi => heap_setRow_other _ _ _ _ (by omega)

theorem odd_gen (B R m : Nat) (n : Int) (w : World) (h : Rd B w R m) (hm : m ≤ 1000000) (hn : n ≤ 1000000) (hn0 : 0 ≤ n) :
    Calls Try.prog 42 #[.pointer (some ⟨R, 0, none⟩), .int .i64 n] w (Odded B R m w) := by
  by_cases h0 : n = 0
  · subst h0; exact odd_zero B R m w h
  · exact odd_any B R m n w h hm hn (by omega)

/-- All numbers of a block lie within bounds. -/
def Within (b : Nat → Int) (M : Int) : Prop := ∀ k, k < 16 → -M ≤ b k ∧ b k ≤ M
theorem Within.set {b : Nat → Int} {M : Int} (h : Within b M) (k : Nat) (z : Int) (h1 : -M ≤ z) (h2 : z ≤ M) : Within (fun i => if i = k then z else b i) M := fun i hi => by
  by_cases e : i = k
  · simp only [e, if_true]; exact ⟨h1, h2⟩
  · simp only [e, if_false]; exact h i hi
/-- What l20Block leaves. -/
def BlkDrawn (B R m : Nat) (M : Int) (w : World) (e : Ending) (w' : World) : Prop :=
  ∃ b : Nat → Int, e = .returned (.agg (VN 16 b)) ∧ Within b M ∧ Rd B w' R (m + 40) ∧ But R w w'
set_option maxRecDepth 100000 in
set_option maxHeartbeats 2000000 in
theorem l20Block_any (B R m : Nat) (most n : Int) (w : World) (h : Rd B w R m) (hm : m ≤ 900000) (hmo1 : 61 ≤ most) (hmo2 : most ≤ 100000) (hn0 : 0 ≤ n) (hn : n ≤ 1000000) :
    Calls Try.prog 39 #[.pointer (some ⟨R, 0, none⟩), .int .i64 most, .int .i64 n] w (BlkDrawn B R m (most + 1) w) := by
  have hRlt := h.lt
  obtain ⟨w0, hw0⟩ : ∃ w0, w0 = (w.alloc (.cells #[.int .i64 0, .int .i64 0, .int .i64 0, .int .i64 0, .int .i64 0, .int .i64 0, .int .i64 0, .int .i64 0, .int .i64 0, .int .i64 0, .int .i64 0, .int .i64 0, .int .i64 0, .int .i64 0, .int .i64 0, .int .i64 0] 29)).alloc (.cells #[.int .i64 0, .int .i64 0, .int .i64 0, .int .i64 0, .int .i64 0, .int .i64 0, .int .i64 0, .int .i64 0, .int .i64 0, .int .i64 0, .int .i64 0, .int .i64 0, .int .i64 0, .int .i64 0, .int .i64 0, .int .i64 0] 29) := ⟨_, rfl⟩
  have hA : Blk w0 w.heap.size 16 29 (fun _ => 0) := by rw [hw0, ← zero16]; exact (Blk.new' rfl).alloc _
  have hX : Blk w0 (w.heap.size + 1) 16 29 (fun _ => 0) := by rw [hw0, ← zero16]; exact Blk.new' (by simp)
  have hbut : But R w w0 := by rw [hw0]; exact ((But.refl _ _).alloc _).alloc _
  have HR := Lib.hid (show Rd B w0 R m by rw [hw0]; exact (h.alloc _).alloc _)
  have HW := Lib.hid hw0
  clear hw0 h
  go_enter Try.func39, Try.ntmps39
  go_wp2_with fail
  rw [← HW.out]
  clear HW
  refine (pick_any B R m 5 _ HR.out (by omega) (by omega)).mono ?_; rintro e w1 ⟨kd, rfl, kd0, kd1, hr1, ho1⟩
  have hA1 := ho1.blk hA (by omega)
  have hX1 := ho1.blk hX (by omega)
  have hb1 := hbut.trans ho1.but
  have HR1 := Lib.hid hr1
  clear hA hX hbut HR hr1 ho1
  go_wp2_with fail
  go_loopw [9] (fun i wr => ∃ (k : Nat) (b : Nat → Int), k ≤ 16 ∧ i = .int .i64 k ∧ Hid (Within b (most + 1)) ∧ Blk wr w.heap.size 16 29 (fun _ => 0) ∧ Blk wr (w.heap.size + 1) 16 29 b ∧ Hid (Rd B wr R (m + 1 + 2 * k)) ∧ But R w wr) (fun i _ => 16 - (intOf i).toNat)
  case atStart => exact ⟨0, _, by omega, rfl, fun k hk => by omega, hA1, hX1, HR1, hb1⟩
  case round =>
    clear hA1 hX1 HR1 hb1
    obtain ⟨k, b, hk, rfl, HWi, hA, hX, HR, hbut⟩ := hrel
    by_cases hlt : k < 16
    · have hk1 : (k : Int) < 16 := by omega
      by_cases e0 : kd = 0
      · have f0 : (kd == 0) = true := by simp [e0]
        clear e0
        go_wp2_with fail
        refine (pick_any B R (m + 1 + 2 * k) 7 _ HR.out (by omega) (by omega)).mono ?_; rintro e w2 ⟨x, rfl, x0, x1, hrw2, how2⟩
        have hAw2 := how2.blk hA (by omega)
        have hXw2 := how2.blk hX (by omega)
        have hbw2 := hbut.trans how2.but
        clear hA hX hbut HR
        have c1 := hXw2.cell k hlt
        have f1 := hXw2.frozen k
        have HW2 := Lib.hid (HWi.out.set k (x - 3) (by omega) (by omega))
        have HR9 := Lib.hid (hrw2.mono (m' := m + 1 + 2 * (k + 1)) (by omega))
        clear hrw2 how2
        go_wp2_with fail
        go_roundw
        case rel => exact ⟨k + 1, _, by omega, by go_num, HW2.out, hAw2.other (by omega), hXw2.set k _, HR9.out.setCell (by simp; omega) _, hbw2.setCell (by simp) _⟩
        case measure => simp [intOf]; omega
      · have f0 : (kd == 0) = false := by simp [e0]
        clear e0
        by_cases e1 : kd = 1
        · have f1 : (kd == 1) = true := by simp [e1]
          clear e1
          go_wp2_with fail
          refine (pick_any B R (m + 1 + 2 * k) 256 _ HR.out (by omega) (by omega)).mono ?_; rintro e w2 ⟨x, rfl, x0, x1, hrw2, how2⟩
          have hAw2 := how2.blk hA (by omega)
          have hXw2 := how2.blk hX (by omega)
          have hbw2 := hbut.trans how2.but
          have HRw2 := Lib.hid hrw2
          clear hA hX hbut HR hrw2 how2
          go_wp2_with fail
          refine (pick_any B R (m + 1 + 2 * k + 1) 256 _ HRw2.out (by omega) (by omega)).mono ?_; rintro e w3 ⟨y, rfl, y0, y1, hrw3, how3⟩
          have hAw3 := how3.blk hAw2 (by omega)
          have hXw3 := how3.blk hXw2 (by omega)
          have hbw3 := hbw2.trans how3.but
          clear hAw2 hXw2 hbw2 HRw2
          have m0 : 0 ≤ (x * 256 + y) % (2 * most + 1) := Int.emod_nonneg _ (by omega)
          have m1 : (x * 256 + y) % (2 * most + 1) < 2 * most + 1 := Int.emod_lt_of_pos _ (by omega)
          have c1 := hXw3.cell k hlt
          have f1 := hXw3.frozen k
          have HW2 := Lib.hid (HWi.out.set k ((x * 256 + y) % (2 * most + 1) - most) (by omega) (by omega))
          have HR9 := Lib.hid (hrw3.mono (m' := m + 1 + 2 * (k + 1)) (by omega))
          clear hrw3 how3
          go_wp2_with fail
          go_roundw
          case rel => exact ⟨k + 1, _, by omega, by go_num, HW2.out, hAw3.other (by omega), hXw3.set k _, HR9.out.setCell (by simp; omega) _, hbw3.setCell (by simp) _⟩
          case measure => simp [intOf]; omega
        · have f1 : (kd == 1) = false := by simp [e1]
          clear e1
          by_cases e2 : kd = 2
          · have f2 : (kd == 2) = true := by simp [e2]
            clear e2
            have hs0 := hX.lt
            go_wp2_with fail
            refine (pick_any B R (m + 1 + 2 * k) 3 _ (HR.out.alloc _) (by omega) (by omega)).mono ?_; rintro e w2 ⟨q, rfl, q0, q1, hrw2, how2⟩
            obtain ⟨q, rfl⟩ := Int.eq_ofNat_of_zero_le q0
            have hq : q < 3 := by omega
            have hc := lit_cell [most, -most, 0] ((how2.block wr.heap.size (by omega)).trans (heap_alloc_new wr _)) q hq
            have hbd := pickL_bd (l := [most, -most, 0]) (lo := -most) (hi := most) (by simp; omega) q hq
            have hAw2 := how2.blk (hA.alloc _) (by omega)
            have hXw2 := how2.blk (hX.alloc _) (by omega)
            have hbw2 := (hbut.alloc _).trans how2.but
            generalize pickL [most, -most, 0] q = z at *
            clear hA hX hbut HR
            have c1 := hXw2.cell k hlt
            have f1 := hXw2.frozen k
            have HW2 := Lib.hid (HWi.out.set k (z) (by omega) (by omega))
            have HR9 := Lib.hid (hrw2.mono (m' := m + 1 + 2 * (k + 1)) (by omega))
            clear hrw2 how2
            go_wp2_with fail
            go_roundw
            case rel => exact ⟨k + 1, _, by omega, by go_num, HW2.out, hAw2.other (by omega), hXw2.set k _, HR9.out.setCell (by simp; omega) _, hbw2.setCell (by simp) _⟩
            case measure => simp [intOf]; omega
          · have f2 : (kd == 2) = false := by simp [e2]
            clear e2
            by_cases e3 : kd = 3
            · have f3 : (kd == 3) = true := by simp [e3]
              clear e3
              go_wp2_with fail
              refine (pick_any B R (m + 1 + 2 * k) 3 _ HR.out (by omega) (by omega)).mono ?_; rintro e w2 ⟨x, rfl, x0, x1, hrw2, how2⟩
              have hAw2 := how2.blk hA (by omega)
              have hXw2 := how2.blk hX (by omega)
              have hbw2 := hbut.trans how2.but
              clear hA hX hbut HR
              have c1 := hXw2.cell k hlt
              have f1 := hXw2.frozen k
              have HW2 := Lib.hid (HWi.out.set k (4 * ((k : Int) % 4) - 7 * ((k : Int) / 4) + x) (by omega) (by omega))
              have HR9 := Lib.hid (hrw2.mono (m' := m + 1 + 2 * (k + 1)) (by omega))
              clear hrw2 how2
              go_wp2_with fail
              go_roundw
              case rel => exact ⟨k + 1, _, by omega, by go_num, HW2.out, hAw2.other (by omega), hXw2.set k _, HR9.out.setCell (by simp; omega) _, hbw2.setCell (by simp) _⟩
              case measure => simp [intOf]; omega
            · have f3 : (kd == 3) = false := by simp [e3]
              clear e3
              go_wp2_with fail
              refine (pick_any B R (m + 1 + 2 * k) 4 _ HR.out (by omega) (by omega)).mono ?_; rintro e w2 ⟨x, rfl, x0, x1, hrw2, how2⟩
              have hAw2 := how2.blk hA (by omega)
              have hXw2 := how2.blk hX (by omega)
              have hbw2 := hbut.trans how2.but
              have HRw2 := Lib.hid hrw2
              clear hA hX hbut HR hrw2 how2
              by_cases hx : x = 0
              · have ex : (x == 0) = true := by simp [hx]
                clear hx
                go_wp2_with fail
                refine (pick_any B R (m + 1 + 2 * k + 1) 121 _ HRw2.out (by omega) (by omega)).mono ?_; rintro e w3 ⟨y, rfl, y0, y1, hrw3, how3⟩
                have hAw3 := how3.blk hAw2 (by omega)
                have hXw3 := how3.blk hXw2 (by omega)
                have hbw3 := hbw2.trans how3.but
                clear hAw2 hXw2 hbw2 HRw2
                have c1 := hXw3.cell k hlt
                have f1 := hXw3.frozen k
                have HW2 := Lib.hid (HWi.out.set k (y - 60) (by omega) (by omega))
                have HR9 := Lib.hid (hrw3.mono (m' := m + 1 + 2 * (k + 1)) (by omega))
                clear hrw3 how3
                go_wp2_with fail
                go_roundw
                case rel => exact ⟨k + 1, _, by omega, by go_num, HW2.out, hAw3.other (by omega), hXw3.set k _, HR9.out.setCell (by simp; omega) _, hbw3.setCell (by simp) _⟩
                case measure => simp [intOf]; omega
              · have ex : (x == 0) = false := by simp [hx]
                clear hx
                have HR9 := Lib.hid (HRw2.out.mono (m' := m + 1 + 2 * (k + 1)) (by omega))
                clear HRw2
                go_wp2_with fail
                go_roundw
                case rel => exact ⟨k + 1, b, by omega, by go_num, HWi, hAw2, hXw2, HR9.out, hbw2⟩
                case measure => simp [intOf]; omega
    · go_wp2_with fail
      refine (odd_gen B R (m + 1 + 2 * k) n _ HR.out (by omega) hn hn0).mono ?_; rintro e w2 ⟨t, rfl, hr2, ho2⟩
      have hA2 := ho2.blk hA (by omega)
      have hX2 := ho2.blk hX (by omega)
      have hb2 := hbut.trans ho2.but
      have HR2 := Lib.hid hr2
      clear hA hX hbut HR hr2 ho2
      cases t with
      | true =>
        go_wp2_with fail
        refine (pick_any B R (m + 1 + 2 * k + 1) 16 _ HR2.out (by omega) (by omega)).mono ?_; rintro e w3 ⟨j, rfl, j0, j1, hr3, ho3⟩
        obtain ⟨j, rfl⟩ := Int.eq_ofNat_of_zero_le j0
        have hj : j < 16 := by omega
        have hA3 := ho3.blk hA2 (by omega)
        have hX3 := ho3.blk hX2 (by omega)
        have hb3 := hb2.trans ho3.but
        have HR3 := Lib.hid hr3
        have hl3 := hr3.lt
        have hs3 := hX3.lt
        clear hA2 hX2 hb2 HR2 hr3 ho3
        go_wp2_with fail
        refine (pick_any B R (m + 1 + 2 * k + 1 + 1) 2 _ (HR3.out.alloc _) (by omega) (by omega)).mono ?_; rintro e w4 ⟨q, rfl, q0, q1, hr4, ho4⟩
        obtain ⟨q, rfl⟩ := Int.eq_ofNat_of_zero_le q0
        have hq : q < 2 := by omega
        have hc := lit_cell [most + 1, -most - 1] ((ho4.block w3.heap.size (by omega)).trans (heap_alloc_new w3 _)) q hq
        have hbd := pickL_bd (l := [most + 1, -most - 1]) (lo := -(most + 1)) (hi := most + 1) (by simp; omega) q hq
        have hA4 := ho4.blk (hA3.alloc _) (by omega)
        have hX4 := ho4.blk (hX3.alloc _) (by omega)
        have hb4 := (hb3.alloc _).trans ho4.but
        have HR4 := Lib.hid (hr4.mono (m' := m + 40) (by omega))
        generalize pickL [most + 1, -most - 1] q = z at *
        clear hA3 hX3 hb3 HR3 hr4 ho4
        have c1 := hX4.cell j hj
        have f1 := hX4.frozen j
        have HW2 := Lib.hid (HWi.out.set j z hbd.1 hbd.2)
        have hX5 := hX4.set j z
        have hA5 : Blk (w4.setCell ⟨w.heap.size + 1, j, none⟩ (.int .i64 z)) w.heap.size 16 29 (fun _ => 0) := hA4.other (by omega)
        have HF := Lib.hid (show BlkDrawn B R m (most + 1) w (.returned (.agg (VN 16 (fun i => if i = j then z else b i)))) ((w4.setCell ⟨w.heap.size + 1, j, none⟩ (.int .i64 z)).setRow w.heap.size (VN 16 (fun i => if i = j then z else b i))) from
          ⟨_, rfl, HW2.out, (HR4.out.setCell (by simp; omega) _).setRow (by omega) _, (hb4.setCell (by simp) _).setRow (Nat.le_refl _) _⟩)
        clear hX4 hA4 hb4 HR4
        go_wp2_with (first | refine load16 (w.heap.size + 1) hX5 rfl rfl rfl ?_ | refine store16 w.heap.size _ hA5 rfl rfl rfl rfl ?_)
        exact ret16 w.heap.size Try.results39 (hA5.setRow _) rfl rfl HF.out
      | false =>
        have HF := Lib.hid (show BlkDrawn B R m (most + 1) w (.returned (.agg (VN 16 b))) (w2.setRow w.heap.size (VN 16 b)) from
          ⟨_, rfl, HWi.out, (HR2.out.mono (m' := m + 40) (by omega)).setRow (by omega) _, hb2.setRow (Nat.le_refl _) _⟩)
        clear HR2 hb2
        go_wp2_with (first | refine load16 (w.heap.size + 1) hX2 rfl rfl rfl ?_ | refine store16 w.heap.size _ hA2 rfl rfl rfl rfl ?_)
        exact ret16 w.heap.size Try.results39 (hA2.setRow _) rfl rfl HF.out
end Go.Proofs.Ytogmlcmajecpgaa
