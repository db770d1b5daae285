/- The drawing of a block and an index. -/
import Derived.Test.YtammofbncdmccaaDoorDrawBlock2
import Derived.Test.YtammofbncdmccaaDoorQDraw
import Derived.Test.YtammofbncdmccaaDoorDecode
namespace Go.Proofs.YtammofbncdmccaaDoor
open Go.RowKit

/-- A block and an index are drawn. -/
def BQDrawn (w : World) (e : Ending) (w' : World) : Prop := ∃ (b : Nat → Int) (q : Int), e = .returned (.tuple #[.agg (VN 16 b), .int .i64 q]) ∧ Hid (Within b 256) ∧ -1 ≤ q ∧ q ≤ 16 ∧ Below w.heap.size w w'
def LQDrawn (w : World) (e : Ending) (w' : World) : Prop := ∃ (b : Nat → Int) (q : Int), e = .returned (.tuple #[.agg (VN 16 b), .int .i64 q]) ∧ -1 ≤ q ∧ q ≤ 16 ∧ Below w.heap.size w w'

theorem DrawCodeBlock_any (v : Value) (n : Nat) (c : Nat → Int) (w : World) (h : SlB w.heap.size w v n c) (hn : n ≤ 1000000000000) :
    Calls Tryd.prog 6 #[v] w (BQDrawn w) := by
  obtain ⟨w0, hw0⟩ : ∃ w0, w0 = w.alloc (.cells #[.int .i64 0, .int .i64 0, .int .i64 0, .int .i64 0, .int .i64 0, .int .i64 0, .int .i64 0, .int .i64 0, .int .i64 0, .int .i64 0, .int .i64 0, .int .i64 0, .int .i64 0, .int .i64 0, .int .i64 0, .int .i64 0] 23) := ⟨_, rfl⟩
  have hA : Blk w0 w.heap.size 16 23 (fun _ => 0) := by rw [hw0, ← zero16]; exact Blk.new' rfl
  have hbel : Below w.heap.size w w0 := by rw [hw0]; exact (Below.refl _ _).alloc (Nat.le_refl _) _
  have HS := Lib.hid (h.later hbel)
  have HW := Lib.hid hw0
  have hs0 := hA.lt
  clear hw0 h
  go_enter Tryd.func6, Tryd.ntmps6
  go_wp2_with fail
  rw [← HW.out]
  clear HW
  refine (l20Open_any v n c _ HS.out hn).mono ?_; rintro e w1 ⟨rfl, hr1, hb1, hz1⟩
  have hA1 := hA.below hb1 hA.lt
  have hbel1 := hbel.trans (hb1.mono (by omega))
  have HR1 := Lib.hid hr1
  have hl1 := hr1.lt
  clear hA hbel hr1 hb1 hz1 HS
  go_wp2_with fail
  refine (l20Block_any _ _ 0 255 12 _ HR1.out (by omega) (by omega) (by omega) (by omega) (by omega)).mono ?_; rintro e w2 ⟨b, rfl, hwi, hr2, hb2⟩
  have hA2 := hA1.but hb2 (by omega)
  have hbel2 := hbel1.trans (hb2.below (by omega) (by omega))
  have HR2 := Lib.hid hr2
  have hl2 := hr2.lt
  have HWi := Lib.hid hwi
  have hs2 := hA2.lt
  clear hA1 hbel1 HR1 hb2 hr2 hwi
  go_wp2_with fail
  refine (l20Q_any _ _ (0 + 40) 12 _ HR2.out (by omega) (by omega) (by omega)).mono ?_; rintro e w3 ⟨q, rfl, q0, q1, _, hb3⟩
  have hA3 := hA2.but hb3 (by omega)
  have hbel3 := hbel2.trans (hb3.below (by omega) (by omega))
  clear hA2 hbel2 HR2 hb3
  go_wp2_with (refine store16 w.heap.size b hA3 rfl rfl rfl rfl ?_)
  exact ret16t w.heap.size Tryd.results6 (hA3.setRow _) rfl rfl rfl ⟨b, q, rfl, HWi, q0, q1, below_setRow hbel3 (Nat.le_refl _) _⟩

theorem DrawDecodeBlock_any (v : Value) (n : Nat) (c : Nat → Int) (w : World) (h : SlB w.heap.size w v n c) (hn : n ≤ 1000000000000) :
    Calls Tryd.prog 13 #[v] w (LQDrawn w) := by
  obtain ⟨w0, hw0⟩ : ∃ w0, w0 = w.alloc (.cells #[.int .i64 0, .int .i64 0, .int .i64 0, .int .i64 0, .int .i64 0, .int .i64 0, .int .i64 0, .int .i64 0, .int .i64 0, .int .i64 0, .int .i64 0, .int .i64 0, .int .i64 0, .int .i64 0, .int .i64 0, .int .i64 0] 23) := ⟨_, rfl⟩
  have hA : Blk w0 w.heap.size 16 23 (fun _ => 0) := by rw [hw0, ← zero16]; exact Blk.new' rfl
  have hbel : Below w.heap.size w w0 := by rw [hw0]; exact (Below.refl _ _).alloc (Nat.le_refl _) _
  have HS := Lib.hid (h.later hbel)
  have HW := Lib.hid hw0
  have hs0 := hA.lt
  clear hw0 h
  go_enter Tryd.func13, Tryd.ntmps13
  go_wp2_with fail
  rw [← HW.out]
  clear HW
  refine (l20Open_any v n c _ HS.out hn).mono ?_; rintro e w1 ⟨rfl, hr1, hb1, hz1⟩
  have hA1 := hA.below hb1 hA.lt
  have hbel1 := hbel.trans (hb1.mono (by omega))
  have HR1 := Lib.hid hr1
  have hl1 := hr1.lt
  clear hA hbel hr1 hb1 hz1 HS
  go_wp2_with fail
  refine (pick_any _ _ 0 2 _ HR1.out (by omega) (by omega)).mono ?_; rintro e w2 ⟨k, rfl, k0, k1, hr2, ho2⟩
  have hA2 := ho2.blk hA1 (by omega)
  have hbel2 := hbel1.trans (ho2.below (by omega))
  have HR2 := Lib.hid hr2
  have hl2 := hr2.lt
  have hs2 := hA2.lt
  clear hA1 hbel1 HR1 ho2 hr2
  by_cases hk : k = 0
  · have ek : (k == 0) = true := by simp [hk]
    clear hk
    go_wp2_with fail
    refine (l20Q_any _ _ 1 12 _ HR2.out (by omega) (by omega) (by omega)).mono ?_; rintro e w3 ⟨q, rfl, q0, q1, hr3, hb3⟩
    have hA3 := hA2.but hb3 (by omega)
    have hbel3 := hbel2.trans (hb3.below (by omega) (by omega))
    have HR3 := Lib.hid hr3
    have hl3 := hr3.lt
    have hs3 := hA3.lt
    clear hA2 hbel2 HR2 hb3 hr3
    go_wp2_with fail
    refine (l20Block_any _ _ 5 255 0 _ HR3.out (by omega) (by omega) (by omega) (by omega) (by omega)).mono ?_; rintro e w4 ⟨b, rfl, _, _, hb4⟩
    have hA4 := hA3.but hb4 (by omega)
    have hbel4 := hbel3.trans (hb4.below (by omega) (by omega))
    have hs4 := hA4.lt
    clear hA3 hbel3 HR3 hb4
    go_wp2_with fail
    all_goals
      refine (sCode_any _ _ _).mono ?_; rintro e w5 ⟨rfl, hb5⟩
      have hA5 := hA4.below hb5 hs4
      have hbel5 := hbel4.trans (hb5.mono (by omega))
      clear hA4 hbel4 hb5
      go_wp2_with (refine store16 w.heap.size _ hA5 rfl rfl rfl rfl ?_)
      exact ret16t w.heap.size Tryd.results13 (hA5.setRow _) rfl rfl rfl ⟨_, q, rfl, q0, q1, below_setRow hbel5 (Nat.le_refl _) _⟩
  · have ek : (k == 0) = false := by simp [hk]
    clear hk
    go_wp2_with fail
    refine (l20Block_any _ _ 1 4080 9 _ HR2.out (by omega) (by omega) (by omega) (by omega) (by omega)).mono ?_; rintro e w3 ⟨b, rfl, _, hr3, hb3⟩
    have hA3 := hA2.but hb3 (by omega)
    have hbel3 := hbel2.trans (hb3.below (by omega) (by omega))
    have HR3 := Lib.hid hr3
    have hl3 := hr3.lt
    have hs3 := hA3.lt
    clear hA2 hbel2 HR2 hb3 hr3
    go_wp2_with fail
    refine (l20Q_any _ _ (1 + 40) 12 _ HR3.out (by omega) (by omega) (by omega)).mono ?_; rintro e w4 ⟨q, rfl, q0, q1, _, hb4⟩
    have hA4 := hA3.but hb4 (by omega)
    have hbel4 := hbel3.trans (hb4.below (by omega) (by omega))
    clear hA3 hbel3 HR3 hb4
    go_wp2_with (refine store16 w.heap.size b hA4 rfl rfl rfl rfl ?_)
    exact ret16t w.heap.size Tryd.results13 (hA4.setRow _) rfl rfl rfl ⟨b, q, rfl, q0, q1, below_setRow hbel4 (Nat.le_refl _) _⟩
end Go.Proofs.YtammofbncdmccaaDoor
