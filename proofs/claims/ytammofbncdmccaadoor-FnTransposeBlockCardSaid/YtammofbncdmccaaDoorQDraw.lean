/- The drawing of a quantization index and of a coefficient. -/
import Derived.Test.YtammofbncdmccaaDoorDraw
import Derived.Deep.RegionHeld3
namespace Go.Proofs.YtammofbncdmccaaDoor
open Go.RowKit

/-- What l20Q leaves: an index in -1..16. -/
def QDrawn (B R m : Nat) (w : World) (e : Ending) (w' : World) : Prop :=
  ∃ q : Int, e = .returned (.int .i64 q) ∧ -1 ≤ q ∧ q ≤ 16 ∧ Rd B w' R (m + 4) ∧ But R w w'
theorem l20Q_any (B R m : Nat) (n : Int) (w : World) (h : Rd B w R m) (hm : m ≤ 900000) (hn : n ≤ 1000000) (hn0 : 1 ≤ n) :
    Calls Tryd.prog 17 #[.pointer (some ⟨R, 0, none⟩), .int .i64 n] w (QDrawn B R m w) := by
  have H := Lib.hid h; clear h
  go_enter Tryd.func17, Tryd.ntmps17
  go_wp2_with fail
  refine (odd_any B R m n _ H.out (by omega) hn hn0).mono ?_; rintro e w1 ⟨t, rfl, hr1, ho1⟩
  have HR1 := Lib.hid hr1; have HO1 := Lib.hid ho1.but; have hl1 := hr1.lt; clear hr1 ho1 H
  cases t with
  | true =>
    go_wp2_with fail
    refine (pick_any B R (m + 1) 2 _ (HR1.out.alloc _) (by omega) (by omega)).mono ?_; rintro e w2 ⟨k, rfl, p1, q1, hr2, ho2⟩
    obtain ⟨j, rfl⟩ := Int.eq_ofNat_of_zero_le p1
    have hj : j < 2 := by omega
    have hc := lit_cell [-1, 16] ((ho2.block w1.heap.size (by omega)).trans (heap_alloc_new w1 _)) j hj
    have hbd := pickL_bd (l := [-1, 16]) (lo := -1) (hi := 16) (by simp) j hj
    have HF := Lib.hid (show Rd B w2 R (m + 4) ∧ But R w w2 from ⟨hr2.mono (by omega), (HO1.out.alloc _).trans ho2.but⟩)
    generalize pickL [-1, 16] j = z at *
    clear hr2 ho2
    go_wp2_with fail
    go_ret
    exact ⟨z, rfl, hbd.1, hbd.2, HF.out⟩
  | false =>
    go_wp2_with fail
    refine (pick_any B R (m + 1) 16 _ HR1.out (by omega) (by omega)).mono ?_; rintro e w2 ⟨k1, rfl, p1, q1, hr2, ho2⟩
    have HR2 := Lib.hid hr2; have HO2 := Lib.hid (HO1.out.trans ho2.but); clear hr2 ho2
    go_wp2_with fail
    refine (pick_any B R (m + 2) 5 _ HR2.out (by omega) (by omega)).mono ?_; rintro e w3 ⟨k2, rfl, p2, q2, hr3, ho3⟩
    have HR3 := Lib.hid hr3; have HO3 := Lib.hid (HO2.out.trans ho3.but); have hl3 := hr3.lt; clear hr3 ho3
    go_wp2_with fail
    refine (pick_any B R (m + 3) 2 _ (HR3.out.alloc _) (by omega) (by omega)).mono ?_; rintro e w4 ⟨k, rfl, p3, q3, hr4, ho4⟩
    obtain ⟨j, rfl⟩ := Int.eq_ofNat_of_zero_le p3
    have hj : j < 2 := by omega
    have hc := lit_cell [k1, k2] ((ho4.block w3.heap.size (by omega)).trans (heap_alloc_new w3 _)) j hj
    have hbd := pickL_bd (l := [k1, k2]) (lo := -1) (hi := 16) (by simp; omega) j hj
    have HF := Lib.hid (show Rd B w4 R (m + 4) ∧ But R w w4 from ⟨hr4.mono (by omega), (HO3.out.alloc _).trans ho4.but⟩)
    generalize pickL [k1, k2] j = z at *
    clear hr4 ho4
    go_wp2_with fail
    go_ret
    exact ⟨z, rfl, hbd.1, hbd.2, HF.out⟩

end Go.Proofs.YtammofbncdmccaaDoor
