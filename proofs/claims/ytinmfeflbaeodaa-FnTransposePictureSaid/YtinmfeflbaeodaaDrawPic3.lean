/- The drawing functions of the laws on pictures. -/
import Derived.Test.YtinmfeflbaeodaaDrawPic2
import Derived.Test.YtinmfeflbaeodaaOpenRow
namespace Go.Proofs.Ytinmfeflbaeodaa
open Go.RowKit

/-- A picture has been drawn; it lies in new memory; nothing old has turned. -/
def PDrawn (w : World) (e : Ending) (w' : World) : Prop :=
  ∃ (pw ph : Int) (v : Value) (n : Nat) (f : Nat → Int), e = .returned (.agg #[.int .i64 pw, .int .i64 ph, v]) ∧ Sn .i64 w.heap.size w'.heap.size w' v n f ∧ n ≤ 1024 ∧ Below w.heap.size w w'
theorem Sn.one {k : IntKind} {lo hi : Nat} {w : World} {v : Value} {n : Nat} {b : Nat → Int} (h : Sn k lo hi w v n b) : v.oneCell' = true := by
  obtain ⟨a, c, rfl, _⟩ := h
  rfl
theorem SlB.later' {w w' : World} {v : Value} {n : Nat} {b : Nat → Int} (h : SlB w.heap.size w v n b) (hb : Below w.heap.size w w') : SlB w'.heap.size w' v n b := slB_mono (h.kept fun g hg => hb.block g hg) hb.size
theorem DrawPictureValid_any (v : Value) (n : Nat) (c : Nat → Int) (w : World) (h : SlB w.heap.size w v n c) (hn : n ≤ 1000000000000) :
    Calls Try.prog 22 #[v] w (PDrawn w) := by
  obtain ⟨w0, hw0⟩ : ∃ w0, w0 = w.alloc (.cells #[.int .i64 0, .int .i64 0, .slice none 0 0] 25) := ⟨_, rfl⟩
  have hA : PicB w0 w.heap.size 0 0 (.slice none 0 0) := by rw [hw0]; exact PicB.new' rfl
  have hbel : Below w.heap.size w w0 := by rw [hw0]; exact (Below.refl _ _).alloc (Nat.le_refl _) _
  have HS := Lib.hid (h.later' hbel)
  have HW := Lib.hid hw0
  have hs0 := hA.lt
  clear hw0 h
  go_enter Try.func22, Try.ntmps22
  go_wp2_with fail
  rw [← HW.out]
  clear HW
  refine (l20Open_any v n c _ HS.out hn).mono ?_; rintro e w1 ⟨rfl, hr1, hb1, hz1⟩
  have HA := Lib.hid (hA.below hb1 hA.lt)
  have HB := Lib.hid (hbel.trans (hb1.mono (by omega)))
  have HR := Lib.hid hr1
  have hl1 := hr1.lt
  clear hA hbel hr1 hb1 hz1 HS
  go_wp2_with fail
  refine (l20Picture_any _ _ 0 2 _ HR.out (by omega) (by omega) (by omega)).mono ?_; rintro e w2 ⟨pw, ph, u, k, f, rfl, hS, hk, _, hU⟩
  have hA2 := HA.out.but hU (by omega)
  have hz2 := hU.size
  have hbel2 := HB.out.trans (hU.below (B := w.heap.size) (by omega) (by omega))
  have HF := Lib.hid (show PDrawn w (.returned (.agg #[.int .i64 pw, .int .i64 ph, u])) (w2.setRow w.heap.size #[.int .i64 pw, .int .i64 ph, u]) from
    ⟨pw, ph, u, k, f, rfl, (hS.setRow (.inl (by omega)) _).mono (by omega) (by simp), hk, below_setRow hbel2 (Nat.le_refl _) _⟩)
  have h1 := hS.one
  clear HA HB HR hU hS
  go_wp2_with (refine storeP w.heap.size hA2 h1 rfl rfl rfl rfl ?_)
  exact retP w.heap.size Try.results22 (hA2.setRow _ _ _) rfl rfl HF.out
theorem DrawTranspose_any (v : Value) (n : Nat) (c : Nat → Int) (w : World) (h : SlB w.heap.size w v n c) (hn : n ≤ 1000000000000) :
    Calls Try.prog 27 #[v] w (PDrawn w) := by
  obtain ⟨w0, hw0⟩ : ∃ w0, w0 = w.alloc (.cells #[.int .i64 0, .int .i64 0, .slice none 0 0] 25) := ⟨_, rfl⟩
  have hA : PicB w0 w.heap.size 0 0 (.slice none 0 0) := by rw [hw0]; exact PicB.new' rfl
  have hbel : Below w.heap.size w w0 := by rw [hw0]; exact (Below.refl _ _).alloc (Nat.le_refl _) _
  have HS := Lib.hid (h.later' hbel)
  have HW := Lib.hid hw0
  have hs0 := hA.lt
  clear hw0 h
  go_enter Try.func27, Try.ntmps27
  go_wp2_with fail
  rw [← HW.out]
  clear HW
  refine (l20Open_any v n c _ HS.out hn).mono ?_; rintro e w1 ⟨rfl, hr1, hb1, hz1⟩
  have HA := Lib.hid (hA.below hb1 hA.lt)
  have HB := Lib.hid (hbel.trans (hb1.mono (by omega)))
  have HR := Lib.hid hr1
  have hl1 := hr1.lt
  clear hA hbel hr1 hb1 hz1 HS
  go_wp2_with fail
  refine (l20Picture_any _ _ 0 6 _ HR.out (by omega) (by omega) (by omega)).mono ?_; rintro e w2 ⟨pw, ph, u, k, f, rfl, hS, hk, _, hU⟩
  have hA2 := HA.out.but hU (by omega)
  have hz2 := hU.size
  have hbel2 := HB.out.trans (hU.below (B := w.heap.size) (by omega) (by omega))
  have HF := Lib.hid (show PDrawn w (.returned (.agg #[.int .i64 pw, .int .i64 ph, u])) (w2.setRow w.heap.size #[.int .i64 pw, .int .i64 ph, u]) from
    ⟨pw, ph, u, k, f, rfl, (hS.setRow (.inl (by omega)) _).mono (by omega) (by simp), hk, below_setRow hbel2 (Nat.le_refl _) _⟩)
  have h1 := hS.one
  clear HA HB HR hU hS
  go_wp2_with (refine storeP w.heap.size hA2 h1 rfl rfl rfl rfl ?_)
  exact retP w.heap.size Try.results27 (hA2.setRow _ _ _) rfl rfl HF.out
end Go.Proofs.Ytinmfeflbaeodaa
