/- The walks of the exact laws on the quantizer: the program's function and the reference's return the same number. -/
import Derived.Test.YthehnbdkeecibaaDoorQuant
namespace Go.Proofs.YthehnbdkeecibaaDoor
open Go.RowKit

theorem FnExactQuantStep_walk (q : Int) (_hq : (Lit.int .i64 q).wf = true) (w : World) (ht : HasTab w) :
    Calls Tryd.prog 3 #[.int .i64 q] w fun e w' => e = .returned (.bool true) ∧ Below w.heap.size w w' := by
  have H := Lib.hid ht; clear ht
  go_enter Tryd.func3, Tryd.ntmps3
  go_wp2_with fail
  refine (sQuantStep_any _ _).mono ?_; rintro e w1 ⟨rfl, hb⟩
  have ht1 := Lib.hid (H.out.below hb H.out.size)
  go_wp2_with fail
  refine (iQuantStep_any _ _ ht1.out).mono ?_; rintro e w' ⟨rfl, rfl⟩
  go_wp2_with fail
  go_ret
  exact ⟨rfl, hb⟩

theorem FnExactDequantize_walk (l : Int) (_hl : (Lit.int .i64 l).wf = true) (q : Int) (_hq : (Lit.int .i64 q).wf = true) (w : World) (ht : HasTab w) :
    Calls Tryd.prog 4 #[.int .i64 l, .int .i64 q] w fun e w' => e = .returned (.bool true) ∧ Below w.heap.size w w' := by
  have H := Lib.hid ht; clear ht
  go_enter Tryd.func4, Tryd.ntmps4
  go_wp2_with fail
  refine (sDequantize_any _ _ _).mono ?_; rintro e w1 ⟨rfl, hb⟩
  have ht1 := Lib.hid (H.out.below hb H.out.size)
  go_wp2_with fail
  refine (iDequantize_any _ _ _ ht1.out).mono ?_; rintro e w' ⟨rfl, rfl⟩
  go_wp2_with fail
  go_ret
  exact ⟨rfl, hb⟩

theorem FnExactQuantize_walk (c : Int) (_hc : (Lit.int .i64 c).wf = true) (q : Int) (_hq : (Lit.int .i64 q).wf = true) (w : World) (ht : HasTab w) :
    Calls Tryd.prog 5 #[.int .i64 c, .int .i64 q] w fun e w' => e = .returned (.bool true) ∧ Below w.heap.size w w' := by
  have H := Lib.hid ht; clear ht
  go_enter Tryd.func5, Tryd.ntmps5
  go_wp2_with fail
  refine (sQuantize_any _ _ _).mono ?_; rintro e w1 ⟨rfl, hb⟩
  have ht1 := Lib.hid (H.out.below hb H.out.size)
  go_wp2_with fail
  refine (iQuantize_any _ _ _ ht1.out).mono ?_; rintro e w2 ⟨rfl, hb2⟩
  go_wp2_with fail
  go_ret
  exact ⟨rfl, hb.trans (hb2.mono hb.size)⟩

end Go.Proofs.YthehnbdkeecibaaDoor
