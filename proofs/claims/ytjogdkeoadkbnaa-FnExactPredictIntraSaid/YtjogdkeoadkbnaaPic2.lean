/- Contracts on pictures: SampleAt, the differences, and what the exact laws do with pictures. -/
import Derived.Test.YtjogdkeoadkbnaaPic
import Derived.BigRegion
namespace Go.Proofs.Ytjogdkeoadkbnaa
open Go.RowKit

theorem PicB.set2 {w : World} {g : Nat} {pw ph : Int} {v : Value} (h : PicB w g pw ph v) (u : Value) : PicB (w.setCell ⟨g, 2, none⟩ u) g pw ph u := by
  unfold PicB
  rw [heap_setCell_same w g 2 _ _ _ h]
  rfl
def sampI (pw ph : Int) (n : Nat) (b : Nat → Int) (x y : Int) : Int := if pvB pw ph n b then b (atN pw ph x y) else 0
/-- Two pictures are valid and have the same size. -/
def sameB (aw ah : Int) (an : Nat) (a : Nat → Int) (bw bh : Int) (bn : Nat) (b : Nat → Int) : Bool := pvB aw ah an a && pvB bw bh bn b && decide (aw = bw) && decide (ah = bh)
theorem sameB_out {aw ah : Int} {an : Nat} {a : Nat → Int} {bw bh : Int} {bn : Nat} {b : Nat → Int} (h : sameB aw ah an a bw bh bn b = true) : pvB aw ah an a = true ∧ pvB bw bh bn b = true ∧ aw = bw ∧ ah = bh ∧ an = bn ∧ an ≤ 1024 ∧ (∀ k, k < an → 0 ≤ a k ∧ a k ≤ 255) ∧ (∀ k, k < an → 0 ≤ b k ∧ b k ≤ 255) := by
  unfold sameB at h
  simp only [Bool.and_eq_true, decide_eq_true_eq] at h
  obtain ⟨⟨⟨h1, h2⟩, rfl⟩, rfl⟩ := h
  obtain ⟨s1, s2, n1, c1⟩ := pvB_out h1
  obtain ⟨_, _, n2, c2⟩ := pvB_out h2
  have := side_mul aw ah s1 s2
  have e : an = bn := by omega
  subst e
  exact ⟨h1, h2, rfl, rfl, rfl, by omega, c1, c2⟩
def absD (aw ah : Int) (an : Nat) (a : Nat → Int) (bw bh : Int) (bn : Nat) (b : Nat → Int) : Int := if sameB aw ah an a bw bh bn b then sumTo (fun i => absI (a i - b i)) an else -1
def sqD (aw ah : Int) (an : Nat) (a : Nat → Int) (bw bh : Int) (bn : Nat) (b : Nat → Int) : Int := if sameB aw ah an a bw bh bn b then sumTo (fun i => (a i - b i) * (a i - b i)) an else -1
theorem abs_bd {a b : Nat → Int} {n : Nat} (ha : ∀ k, k < n → 0 ≤ a k ∧ a k ≤ 255) (hb : ∀ k, k < n → 0 ≤ b k ∧ b k ≤ 255) (k : Nat) (hk : k ≤ n) : 0 ≤ sumTo (fun i => absI (a i - b i)) k ∧ sumTo (fun i => absI (a i - b i)) k ≤ 255 * k := by
  have := sum_bd (f := fun i => absI (a i - b i)) (lo := 0) (hi := 255) k (fun j hj => by have := ha j (by omega); have := hb j (by omega); simp only [absI]; omega)
  omega
theorem sq_le (x : Int) (h1 : -255 ≤ x) (h2 : x ≤ 255) : 0 ≤ x * x ∧ x * x ≤ 65025 := by
  have h : x.natAbs ≤ 255 := by omega
  have e : x * x = ((x.natAbs * x.natAbs : Nat) : Int) := by rw [Int.natAbs_mul_self]
  have := Nat.mul_le_mul h h
  omega
theorem sqs_bd {a b : Nat → Int} {n : Nat} (ha : ∀ k, k < n → 0 ≤ a k ∧ a k ≤ 255) (hb : ∀ k, k < n → 0 ≤ b k ∧ b k ≤ 255) (k : Nat) (hk : k ≤ n) : 0 ≤ sumTo (fun i => (a i - b i) * (a i - b i)) k ∧ sumTo (fun i => (a i - b i) * (a i - b i)) k ≤ 65025 * k := by
  have := sum_bd (f := fun i => (a i - b i) * (a i - b i)) (lo := 0) (hi := 65025) k (fun j hj => by have := ha j (by omega); have := hb j (by omega); exact sq_le _ (by omega) (by omega))
  omega

def leftI (left : Int) (n : Nat) : Int := if left < n then -1 else left - n
theorem szIntS_any (a : Option Addr) (n cap : Nat) (left : Int) (w : World) (hn : n ≤ maxLen) (h0 : 0 ≤ left) (h1 : left ≤ 1048576) :
    Calls Try.prog 44 #[.slice a n cap, .int .i64 left] w fun e w' => e = .returned (.int .i64 (leftI left n)) ∧ w = w' := by
  unfold maxLen at hn
  by_cases h : left < n
  · go_enter Try.func44, Try.ntmps44
    go_wp2
    go_ret
    exact ⟨ret_int (by unfold leftI; rw [if_pos h]), rfl⟩
  · go_enter Try.func44, Try.ntmps44
    go_wp2
    go_ret
    exact ⟨ret_int (by unfold leftI; rw [if_neg (by omega)]), rfl⟩
theorem szPicture_any (pw ph : Int) (a : Option Addr) (n cap : Nat) (left : Int) (w : World) (hn : n ≤ maxLen) (h0 : 0 ≤ left) (h1 : left ≤ 1048576) :
    Calls Try.prog 17 #[.agg #[.int .i64 pw, .int .i64 ph, .slice a n cap], .int .i64 left] w fun e w' => e = .returned (.int .i64 (leftI left n)) ∧ Below w.heap.size w w' := by
  have hbel : Below w.heap.size w (w.alloc (.cells #[.int .i64 pw, .int .i64 ph, .slice a n cap] 29)) := (Below.refl _ _).alloc (Nat.le_refl _) _
  have hc : leftI left n < 0 ∧ leftI left n = -1 ∨ ¬ leftI left n < 0 := by unfold leftI; split <;> omega
  rcases hc with ⟨hc, he⟩ | hc
  · have HE := Lib.hid he; clear he
    go_enter Try.func17, Try.ntmps17
    go_wp2_with fail
    refine (szIntS_any _ _ _ _ _ hn h0 h1).mono ?_; rintro e w' ⟨rfl, rfl⟩
    go_wp2_with fail
    go_ret
    exact ⟨ret_int HE.out.symm, hbel⟩
  · go_enter Try.func17, Try.ntmps17
    go_wp2_with fail
    refine (szIntS_any _ _ _ _ _ hn h0 h1).mono ?_; rintro e w' ⟨rfl, rfl⟩
    go_wp2_with fail
    go_ret
    exact ⟨rfl, hbel⟩

/-- What toPicture leaves: the same picture, its samples in a new block. -/
def MadePic (pw ph : Int) (n : Nat) (b : Nat → Int) (w : World) (e : Ending) (w' : World) : Prop := ∃ g, e = .returned (.agg #[.int .i64 pw, .int .i64 ph, .slice (some ⟨g, 0, none⟩) n n]) ∧ w.heap.size ≤ g ∧ Blk w' g n 3 b ∧ Below w.heap.size w w'
theorem toPicture_any (pw ph : Int) (v : Value) (n : Nat) (b : Nat → Int) (w : World) (h : Sr .i64 w.heap.size w v n b) (hn : n ≤ 1000000000000) (hv1 : v.oneCell' = true) :
    Calls Try.prog 19 #[.agg #[.int .i64 pw, .int .i64 ph, v]] w (MadePic pw ph n b w) := by
  obtain ⟨w3, hw3⟩ : ∃ w3, w3 = ((w.alloc (.cells #[.int .i64 pw, .int .i64 ph, v] 29)).alloc (.cells #[.int .i64 0, .int .i64 0, .slice none 0 0] 24)).alloc (.cells #[.int .i64 pw, .int .i64 ph, .slice none 0 0] 24) := ⟨_, rfl⟩
  have hP : PicB w3 (w.heap.size + 1) 0 0 (.slice none 0 0) := by rw [hw3]; exact (PicB.new' (by simp)).alloc _
  have hQ : PicB w3 (w.heap.size + 2) pw ph (.slice none 0 0) := by rw [hw3]; exact PicB.new' (by simp)
  have hbel : Below w.heap.size w w3 := by rw [hw3]; exact (((Below.refl _ _).alloc (Nat.le_refl _) _).alloc (by simp) _).alloc (by simp; omega) _
  have HS := Lib.hid ((h.below hbel (Nat.le_refl _)).mono hbel.size)
  have hs3 : w.heap.size + 2 < w3.heap.size := by rw [hw3]; simp
  have HW := Lib.hid hw3
  obtain ⟨a, cap, rfl, _, _⟩ := h
  clear hw3
  go_enter Try.func19, Try.ntmps19
  go_wp2_with fail
  rw [← HW.out]
  clear HW
  refine (toIntS_any _ n b _ HS.out hn).mono ?_; rintro e w4 ⟨g, rfl, hg, hB, hb4⟩
  have hP4 := hP.below hb4 hP.lt
  have hQ4 := hQ.below hb4 hQ.lt
  have hbel4 := hbel.trans (hb4.mono (by omega))
  clear hP hQ hbel hb4 HS
  have f2 := hQ4.fr 2
  have c2 := hQ4.c2
  have hQ5 := hQ4.set2 (.slice (some ⟨g, 0, none⟩) n n)
  have hP5 : PicB (w4.setCell ⟨w.heap.size + 2, 2, none⟩ (.slice (some ⟨g, 0, none⟩) n n)) (w.heap.size + 1) 0 0 (.slice none 0 0) := hP4.other (by omega)
  have hB5 : Blk (w4.setCell ⟨w.heap.size + 2, 2, none⟩ (.slice (some ⟨g, 0, none⟩) n n)) g n 3 b := hB.other (by omega)
  have hbel5 := hbel4.setCell (p := ⟨w.heap.size + 2, 2, none⟩) (by simp) (.slice (some ⟨g, 0, none⟩) n n)
  clear hQ4 hP4 hB hbel4
  go_wp2_with (first | refine loadP (w.heap.size + 2) hQ5 rfl rfl rfl ?_ | refine storeP (w.heap.size + 1) hP5 rfl rfl rfl rfl rfl ?_)
  exact retP (w.heap.size + 1) Try.results19 (hP5.setRow _ _ _) rfl rfl ⟨g, rfl, by omega, hB5.setRowOther _ _ (by omega), below_setRow hbel5 (by omega) _⟩

theorem eqPicture_yes (pw ph : Int) (u v : Value) (n : Nat) (b c : Nat → Int) (w : World) (hu : Sr .i64 w.heap.size w u n b) (hv : Sr .i64 w.heap.size w v n c) (h : ∀ i, i < n → b i = c i) (hn : n ≤ 1000000000000) :
    Calls Try.prog 14 #[.agg #[.int .i64 pw, .int .i64 ph, u], .agg #[.int .i64 pw, .int .i64 ph, v]] w fun e w' => e = .returned (.bool true) ∧ Below w.heap.size w w' := by
  have hbel : Below w.heap.size w ((w.alloc (.cells #[.int .i64 pw, .int .i64 ph, u] 24)).alloc (.cells #[.int .i64 pw, .int .i64 ph, v] 24)) := ((Below.refl _ _).alloc (Nat.le_refl _) _).alloc (by simp) _
  have HU := Lib.hid ((hu.below hbel (Nat.le_refl _)).mono hbel.size)
  have HV := Lib.hid ((hv.below hbel (Nat.le_refl _)).mono hbel.size)
  have HH := Lib.hid h
  obtain ⟨a, cap, rfl, _, _⟩ := hu
  obtain ⟨a', cap', rfl, _, _⟩ := hv
  clear h
  go_enter Try.func14, Try.ntmps14
  go_wp2_with fail
  refine (eqIntS_yes _ _ n b c _ HU.out HV.out HH.out hn).mono ?_; rintro e w1 ⟨rfl, hb1⟩
  go_wp2_with fail
  go_ret
  exact ⟨rfl, hbel.trans (hb1.mono hbel.size)⟩

theorem markPicture_any (pw ph : Int) (v : Value) (n lo hi : Nat) (b : Nat → Int) (m : Int) (w : World) (h : Sn .i64 lo hi w v n b) (hhi : hi ≤ w.heap.size) (hn : n ≤ 1000000000000) (hm0 : 0 ≤ m) (hm : m ≤ 1000000000000) :
    Calls Try.prog 15 #[.agg #[.int .i64 pw, .int .i64 ph, v], .int .i64 m] w fun e w' => e = .returned (.int .i64 (m + n)) ∧ Sn .i64 lo hi w' v n (fun i => (m + i : Int)) ∧ Mod lo hi (w.alloc (.cells #[.int .i64 pw, .int .i64 ph, v] 24)) w' := by
  have HS := Lib.hid (h.below (C := w.heap.size) ((Below.refl _ _).alloc (Nat.le_refl _) (.cells #[.int .i64 pw, .int .i64 ph, v] 24)) hhi)
  obtain ⟨a, cap, rfl, _, _⟩ := h
  go_enter Try.func15, Try.ntmps15
  go_wp2_with fail
  refine (markIntS_any _ n lo hi b m _ HS.out hn hm0 hm).mono ?_; rintro e w1 ⟨rfl, hs, hmod⟩
  go_wp2_with fail
  go_ret
  exact ⟨rfl, hs, hmod⟩

theorem heldPicture_any (pw ph : Int) (v : Value) (n hi : Nat) (m : Int) (w : World) (h : Sr .i64 hi w v n (fun i => (m + i : Int))) (hhi : hi ≤ w.heap.size) (hn : n ≤ 1000000000000) (hm0 : 0 ≤ m) (hm : m ≤ 1000000000000) :
    Calls Try.prog 16 #[.agg #[.int .i64 pw, .int .i64 ph, v], .int .i64 m] w fun e w' => e = .returned (.int .i64 (m + n)) ∧ Below w.heap.size w w' := by
  have hbel : Below w.heap.size w (w.alloc (.cells #[.int .i64 pw, .int .i64 ph, v] 24)) := (Below.refl _ _).alloc (Nat.le_refl _) _
  have HS := Lib.hid (h.below hbel hhi)
  obtain ⟨a, cap, rfl, _, _⟩ := h
  go_enter Try.func16, Try.ntmps16
  go_wp2_with fail
  refine (heldIntS_any _ n hi m _ HS.out hn hm0 hm).mono ?_; rintro e w1 ⟨rfl, hb1⟩
  go_wp2_with fail
  go_ret
  exact ⟨rfl, hbel.trans (hb1.mono hbel.size)⟩

theorem iSampleAt_any (pw ph x y : Int) (v : Value) (n : Nat) (b : Nat → Int) (w : World) (h : Sr .i64 w.heap.size w v n b) (hn : n ≤ 1000000000000) :
    Calls Try.prog 22 #[.agg #[.int .i64 pw, .int .i64 ph, v], .int .i64 x, .int .i64 y] w fun e w' => e = .returned (.int .i64 (sampI pw ph n b x y)) ∧ Below w.heap.size w w' := by
  obtain ⟨w0, hw0⟩ : ∃ w0, w0 = w.alloc (.cells #[.int .i64 pw, .int .i64 ph, v] 24) := ⟨_, rfl⟩
  have hP : PicB w0 w.heap.size pw ph v := by rw [hw0]; exact PicB.new' rfl
  have hbel : Below w.heap.size w w0 := by rw [hw0]; exact (Below.refl _ _).alloc (Nat.le_refl _) _
  have HS := Lib.hid ((h.below hbel (Nat.le_refl _)).mono hbel.size)
  have HW := Lib.hid hw0
  obtain ⟨a, cap, rfl, _, _⟩ := h
  clear hw0
  go_enter Try.func22, Try.ntmps22
  go_wp2_with fail
  rw [← HW.out]
  clear HW
  go_wp2_with (refine loadP w.heap.size hP rfl rfl rfl ?_)
  refine (iPictureValid_any _ _ _ n b _ HS.out hn).mono ?_; rintro e w1 ⟨rfl, hb1⟩
  have hP1 := hP.below hb1 hP.lt
  have HS1 := Lib.hid ((HS.out.below hb1 (Nat.le_refl _)).mono hb1.size)
  have hbel1 := hbel.trans (hb1.mono hbel.size)
  clear hP HS hbel hb1
  by_cases hp : pvB pw ph n b = true
  · have HP := Lib.hid hp
    have HE := Lib.hid (show sampI pw ph n b x y = b (atN pw ph x y) by unfold sampI; rw [if_pos hp])
    go_wp2_with (refine loadP w.heap.size hP1 rfl rfl rfl ?_)
    refine (iAt_any _ _ _ _ _ n b _ HS1.out HP.out).mono ?_; rintro e w2 ⟨rfl, hb2⟩
    go_wp2_with fail
    go_ret
    exact ⟨ret_int HE.out.symm, hbel1.trans (hb2.mono hbel1.size)⟩
  · have hp : pvB pw ph n b = false := by simpa using hp
    have HE := Lib.hid (show sampI pw ph n b x y = 0 by unfold sampI; rw [hp]; rfl)
    go_wp2_with fail
    go_ret
    exact ⟨ret_int HE.out.symm, hbel1⟩

theorem sSampleAt_any (pw ph x y : Int) (v : Value) (n : Nat) (b : Nat → Int) (w : World) (h : Sr .i64 w.heap.size w v n b) (hn : n ≤ 1000000000000) :
    Calls Try.prog 21 #[.agg #[.int .i64 pw, .int .i64 ph, v], .int .i64 x, .int .i64 y] w fun e w' => e = .returned (.int .i64 (sampI pw ph n b x y)) ∧ Below w.heap.size w w' := by
  obtain ⟨w0, hw0⟩ : ∃ w0, w0 = w.alloc (.cells #[.int .i64 pw, .int .i64 ph, v] 24) := ⟨_, rfl⟩
  have hP : PicB w0 w.heap.size pw ph v := by rw [hw0]; exact PicB.new' rfl
  have hbel : Below w.heap.size w w0 := by rw [hw0]; exact (Below.refl _ _).alloc (Nat.le_refl _) _
  have HS := Lib.hid ((h.below hbel (Nat.le_refl _)).mono hbel.size)
  have HW := Lib.hid hw0
  obtain ⟨a, cap, rfl, _, _⟩ := h
  clear hw0
  go_enter Try.func21, Try.ntmps21
  go_wp2_with fail
  rw [← HW.out]
  clear HW
  go_wp2_with (refine loadP w.heap.size hP rfl rfl rfl ?_)
  refine (sPictureValid_any _ _ _ n b _ HS.out hn).mono ?_; rintro e w1 ⟨rfl, hb1⟩
  have hP1 := hP.below hb1 hP.lt
  have HS1 := Lib.hid ((HS.out.below hb1 (Nat.le_refl _)).mono hb1.size)
  have hbel1 := hbel.trans (hb1.mono hbel.size)
  clear hP HS hbel hb1
  by_cases hp : pvB pw ph n b = true
  · have HP := Lib.hid hp
    have HE := Lib.hid (show sampI pw ph n b x y = b (atN pw ph x y) by unfold sampI; rw [if_pos hp])
    go_wp2_with (refine loadP w.heap.size hP1 rfl rfl rfl ?_)
    refine (sAt_any _ _ _ _ _ n b _ HS1.out HP.out).mono ?_; rintro e w2 ⟨rfl, hb2⟩
    go_wp2_with fail
    go_ret
    exact ⟨ret_int HE.out.symm, hbel1.trans (hb2.mono hbel1.size)⟩
  · have hp : pvB pw ph n b = false := by simpa using hp
    have HE := Lib.hid (show sampI pw ph n b x y = 0 by unfold sampI; rw [hp]; rfl)
    go_wp2_with fail
    go_ret
    exact ⟨ret_int HE.out.symm, hbel1⟩

theorem alike_any (aw ah : Int) (u : Value) (an : Nat) (a : Nat → Int) (bw bh : Int) (v : Value) (bn : Nat) (b : Nat → Int) (w : World) (hu : Sr .i64 w.heap.size w u an a) (hv : Sr .i64 w.heap.size w v bn b) (ha : an ≤ 1000000000000) (hb : bn ≤ 1000000000000) :
    Calls Try.prog 50 #[.agg #[.int .i64 aw, .int .i64 ah, u], .agg #[.int .i64 bw, .int .i64 bh, v]] w fun e w' => e = .returned (.bool (sameB aw ah an a bw bh bn b)) ∧ Below w.heap.size w w' := by
  obtain ⟨w0, hw0⟩ : ∃ w0, w0 = (w.alloc (.cells #[.int .i64 aw, .int .i64 ah, u] 24)).alloc (.cells #[.int .i64 bw, .int .i64 bh, v] 24) := ⟨_, rfl⟩
  have hP : PicB w0 w.heap.size aw ah u := by rw [hw0]; exact (PicB.new' rfl).alloc _
  have hQ : PicB w0 (w.heap.size + 1) bw bh v := by rw [hw0]; exact PicB.new' (by simp)
  have hbel : Below w.heap.size w w0 := by rw [hw0]; exact ((Below.refl _ _).alloc (Nat.le_refl _) _).alloc (by simp) _
  have HU := Lib.hid ((hu.below hbel (Nat.le_refl _)).mono hbel.size)
  have HV := Lib.hid ((hv.below hbel (Nat.le_refl _)).mono hbel.size)
  have HW := Lib.hid hw0
  obtain ⟨a1, cap1, rfl, _, _⟩ := hu
  obtain ⟨a2, cap2, rfl, _, _⟩ := hv
  clear hw0
  go_enter Try.func50, Try.ntmps50
  go_wp2_with fail
  rw [← HW.out]
  clear HW
  go_wp2_with (refine loadP w.heap.size hP rfl rfl rfl ?_)
  refine (iPictureValid_any _ _ _ an a _ HU.out ha).mono ?_; rintro e w1 ⟨rfl, hb1⟩
  have hP1 := hP.below hb1 hP.lt
  have hQ1 := hQ.below hb1 hQ.lt
  have HV1 := Lib.hid ((HV.out.below hb1 (Nat.le_refl _)).mono hb1.size)
  have hbel1 := hbel.trans (hb1.mono hbel.size)
  clear hP hQ HU HV hbel hb1
  by_cases hp : pvB aw ah an a = true
  · have HP := Lib.hid hp
    go_wp2_with (refine loadP (w.heap.size + 1) hQ1 rfl rfl rfl ?_)
    refine (iPictureValid_any _ _ _ bn b _ HV1.out hb).mono ?_; rintro e w2 ⟨rfl, hb2⟩
    have hP2 := hP1.below hb2 hP1.lt
    have hQ2 := hQ1.below hb2 hQ1.lt
    have hbel2 := hbel1.trans (hb2.mono hbel1.size)
    clear hP1 hQ1 HV1 hbel1 hb2
    by_cases hq : pvB bw bh bn b = true
    · have c1 := hP2.c0
      have c2 := hQ2.c0
      have c3 := hP2.c1
      have c4 := hQ2.c1
      by_cases e1 : aw = bw
      · have b1 : (aw == bw) = true := by simp [e1]
        have HE := Lib.hid (show sameB aw ah an a bw bh bn b = (ah == bh) by unfold sameB; rw [hp, hq, decide_eq_true e1, Bool.eq_iff_iff]; simp)
        clear e1 hP2 hQ2
        go_wp2_with fail
        go_ret
        exact ⟨by rw [HE.out]; rfl, hbel2⟩
      · have b1 : (aw == bw) = false := by simp [e1]
        have HE := Lib.hid (show sameB aw ah an a bw bh bn b = false by unfold sameB; rw [hp, hq, decide_eq_false e1]; rfl)
        clear e1 hP2 hQ2
        go_wp2_with fail
        go_ret
        exact ⟨by rw [HE.out]; rfl, hbel2⟩
    · have hq : pvB bw bh bn b = false := by simpa using hq
      have HE := Lib.hid (show sameB aw ah an a bw bh bn b = false by unfold sameB; rw [hp, hq]; rfl)
      go_wp2_with fail
      go_ret
      exact ⟨by rw [HE.out]; rfl, hbel2⟩
  · have hp : pvB aw ah an a = false := by simpa using hp
    have HE := Lib.hid (show sameB aw ah an a bw bh bn b = false by unfold sameB; rw [hp]; rfl)
    go_wp2_with fail
    go_ret
    exact ⟨by rw [HE.out]; rfl, hbel1⟩

theorem l1Same_any (aw ah : Int) (u : Value) (an : Nat) (a : Nat → Int) (bw bh : Int) (v : Value) (bn : Nat) (b : Nat → Int) (w : World) (hu : Sr .i64 w.heap.size w u an a) (hv : Sr .i64 w.heap.size w v bn b) (ha : an ≤ 1000000000000) (hb : bn ≤ 1000000000000) :
    Calls Try.prog 49 #[.agg #[.int .i64 aw, .int .i64 ah, u], .agg #[.int .i64 bw, .int .i64 bh, v]] w fun e w' => e = .returned (.bool (sameB aw ah an a bw bh bn b)) ∧ Below w.heap.size w w' := by
  obtain ⟨w0, hw0⟩ : ∃ w0, w0 = (w.alloc (.cells #[.int .i64 aw, .int .i64 ah, u] 24)).alloc (.cells #[.int .i64 bw, .int .i64 bh, v] 24) := ⟨_, rfl⟩
  have hP : PicB w0 w.heap.size aw ah u := by rw [hw0]; exact (PicB.new' rfl).alloc _
  have hQ : PicB w0 (w.heap.size + 1) bw bh v := by rw [hw0]; exact PicB.new' (by simp)
  have hbel : Below w.heap.size w w0 := by rw [hw0]; exact ((Below.refl _ _).alloc (Nat.le_refl _) _).alloc (by simp) _
  have HU := Lib.hid ((hu.below hbel (Nat.le_refl _)).mono hbel.size)
  have HV := Lib.hid ((hv.below hbel (Nat.le_refl _)).mono hbel.size)
  have HW := Lib.hid hw0
  obtain ⟨a1, cap1, rfl, _, _⟩ := hu
  obtain ⟨a2, cap2, rfl, _, _⟩ := hv
  clear hw0
  go_enter Try.func49, Try.ntmps49
  go_wp2_with fail
  rw [← HW.out]
  clear HW
  go_wp2_with (refine loadP w.heap.size hP rfl rfl rfl ?_)
  refine (sPictureValid_any _ _ _ an a _ HU.out ha).mono ?_; rintro e w1 ⟨rfl, hb1⟩
  have hP1 := hP.below hb1 hP.lt
  have hQ1 := hQ.below hb1 hQ.lt
  have HV1 := Lib.hid ((HV.out.below hb1 (Nat.le_refl _)).mono hb1.size)
  have hbel1 := hbel.trans (hb1.mono hbel.size)
  clear hP hQ HU HV hbel hb1
  by_cases hp : pvB aw ah an a = true
  · have HP := Lib.hid hp
    go_wp2_with (refine loadP (w.heap.size + 1) hQ1 rfl rfl rfl ?_)
    refine (sPictureValid_any _ _ _ bn b _ HV1.out hb).mono ?_; rintro e w2 ⟨rfl, hb2⟩
    have hP2 := hP1.below hb2 hP1.lt
    have hQ2 := hQ1.below hb2 hQ1.lt
    have hbel2 := hbel1.trans (hb2.mono hbel1.size)
    clear hP1 hQ1 HV1 hbel1 hb2
    by_cases hq : pvB bw bh bn b = true
    · have c1 := hP2.c0
      have c2 := hQ2.c0
      have c3 := hP2.c1
      have c4 := hQ2.c1
      by_cases e1 : aw = bw
      · have b1 : (aw == bw) = true := by simp [e1]
        have HE := Lib.hid (show sameB aw ah an a bw bh bn b = (ah == bh) by unfold sameB; rw [hp, hq, decide_eq_true e1, Bool.eq_iff_iff]; simp)
        clear e1 hP2 hQ2
        go_wp2_with fail
        go_ret
        exact ⟨by rw [HE.out]; rfl, hbel2⟩
      · have b1 : (aw == bw) = false := by simp [e1]
        have HE := Lib.hid (show sameB aw ah an a bw bh bn b = false by unfold sameB; rw [hp, hq, decide_eq_false e1]; rfl)
        clear e1 hP2 hQ2
        go_wp2_with fail
        go_ret
        exact ⟨by rw [HE.out]; rfl, hbel2⟩
    · have hq : pvB bw bh bn b = false := by simpa using hq
      have HE := Lib.hid (show sameB aw ah an a bw bh bn b = false by unfold sameB; rw [hp, hq]; rfl)
      go_wp2_with fail
      go_ret
      exact ⟨by rw [HE.out]; rfl, hbel2⟩
  · have hp : pvB aw ah an a = false := by simpa using hp
    have HE := Lib.hid (show sameB aw ah an a bw bh bn b = false by unfold sameB; rw [hp]; rfl)
    go_wp2_with fail
    go_ret
    exact ⟨by rw [HE.out]; rfl, hbel1⟩

theorem iAbsoluteDifference_any (aw ah : Int) (u : Value) (an : Nat) (a : Nat → Int) (bw bh : Int) (v : Value) (bn : Nat) (b : Nat → Int) (w : World) (hu : Sr .i64 w.heap.size w u an a) (hv : Sr .i64 w.heap.size w v bn b) (ha : an ≤ 1000000000000) (hb : bn ≤ 1000000000000) :
    Calls Try.prog 26 #[.agg #[.int .i64 aw, .int .i64 ah, u], .agg #[.int .i64 bw, .int .i64 bh, v]] w fun e w' => e = .returned (.int .i64 (absD aw ah an a bw bh bn b)) ∧ Below w.heap.size w w' := by
  obtain ⟨w0, hw0⟩ : ∃ w0, w0 = (w.alloc (.cells #[.int .i64 aw, .int .i64 ah, u] 24)).alloc (.cells #[.int .i64 bw, .int .i64 bh, v] 24) := ⟨_, rfl⟩
  have hP : PicB w0 w.heap.size aw ah u := by rw [hw0]; exact (PicB.new' rfl).alloc _
  have hQ : PicB w0 (w.heap.size + 1) bw bh v := by rw [hw0]; exact PicB.new' (by simp)
  have hbel : Below w.heap.size w w0 := by rw [hw0]; exact ((Below.refl _ _).alloc (Nat.le_refl _) _).alloc (by simp) _
  have HU := Lib.hid ((hu.below hbel (Nat.le_refl _)).mono hbel.size)
  have HV := Lib.hid ((hv.below hbel (Nat.le_refl _)).mono hbel.size)
  have HW := Lib.hid hw0
  have hs0 : w.heap.size + 1 < w0.heap.size := by rw [hw0]; simp
  obtain ⟨a1, cap1, rfl, _, hc1⟩ := hu
  obtain ⟨a2, cap2, rfl, _, hc2⟩ := hv
  have HC1 := Lib.hid hc1; have HC2 := Lib.hid hc2
  clear hw0 hc1 hc2
  go_enter Try.func26, Try.ntmps26
  go_wp2_with fail
  rw [← HW.out]
  clear HW
  go_wp2_with (first | refine loadP w.heap.size hP rfl rfl rfl ?_ | refine loadP (w.heap.size + 1) hQ rfl rfl rfl ?_)
  refine (alike_any _ _ _ an a _ _ _ bn b _ HU.out HV.out ha hb).mono ?_; rintro e w1 ⟨rfl, hb1⟩
  have hP1 := hP.below hb1 hP.lt
  have hQ1 := hQ.below hb1 hQ.lt
  have hbel1 := hbel.trans (hb1.mono hbel.size)
  clear hP hQ HU HV hbel hb1
  by_cases hp : sameB aw ah an a bw bh bn b = true
  · obtain ⟨q1, q2, q3, q4, hnn, hle, hca, hcb⟩ := sameB_out hp
    have hle1 : an ≤ bn := by omega
    have HE := Lib.hid (show absD aw ah an a bw bh bn b = sumTo (fun i => absI (a i - b i)) an by unfold absD; rw [if_pos hp])
    have HA := Lib.hid hca; have HB := Lib.hid hcb
    clear hca hcb hnn q1 q2 q3 q4
    have p2 := hP1.c2
    have q2 := hQ1.c2
    clear hP1 hQ1
    go_wp2_with fail
    go_loopw [5, 15] (fun s i wr => ∃ k d : Nat, k ≤ an ∧ i = .int .i64 k ∧ s = .int .i64 (sumTo (fun i => absI (a i - b i)) k) ∧ wr = w1.drewN d) (fun _ i _ => an - (intOf i).toNat)
    case atStart => exact ⟨0, 0, by omega, rfl, rfl, rfl⟩
    case round =>
      obtain ⟨k, d, hk, rfl, rfl, rfl⟩ := hrel
      have hbd := abs_bd HA.out HB.out k hk
      by_cases hlt : k < an
      · obtain ⟨g1, o1, rfl, hg1, hcell1⟩ := HC1.out (by omega)
        obtain ⟨g2, o2, rfl, hg2, hcell2⟩ := HC2.out (by omega)
        have c1 := (hbel1.cell (p := ⟨g1, o1 + k, none⟩) hg1).trans (hcell1 k hlt)
        have c2 := (hbel1.cell (p := ⟨g2, o2 + k, none⟩) hg2).trans (hcell2 k (by omega))
        have h1 := HA.out k hlt
        have h2 := HB.out k hlt
        have hk1 : (k : Int) < bn := by omega
        have hk0 : (0 : Int) ≤ k := by omega
        clear hcell1 hcell2 HC1 HC2
        have h3 : 0 ≤ absI (a k - b k) ∧ absI (a k - b k) ≤ 255 := by unfold absI; omega
        go_wp2_with (go_at_call 51; refine (iabs_any _ _ (by omega) (by omega)).mono ?_; rintro e _ ⟨rfl, rfl⟩)
        go_roundw
        case rel => exact ⟨k + 1, d, by omega, by go_num, rfl, rfl⟩
        case measure => simp [intOf]; omega
      · obtain rfl : k = an := by omega
        go_wp2_with fail
        go_ret
        exact ⟨ret_int HE.out.symm, below_drewN hbel1 d⟩
  · have hp : sameB aw ah an a bw bh bn b = false := by simpa using hp
    have HE := Lib.hid (show absD aw ah an a bw bh bn b = -1 by unfold absD; rw [hp]; rfl)
    go_wp2_with fail
    go_ret
    exact ⟨ret_int HE.out.symm, hbel1⟩

theorem sAbsoluteDifference_any (aw ah : Int) (u : Value) (an : Nat) (a : Nat → Int) (bw bh : Int) (v : Value) (bn : Nat) (b : Nat → Int) (w : World) (hu : Sr .i64 w.heap.size w u an a) (hv : Sr .i64 w.heap.size w v bn b) (ha : an ≤ 1000000000000) (hb : bn ≤ 1000000000000) :
    Calls Try.prog 25 #[.agg #[.int .i64 aw, .int .i64 ah, u], .agg #[.int .i64 bw, .int .i64 bh, v]] w fun e w' => e = .returned (.int .i64 (absD aw ah an a bw bh bn b)) ∧ Below w.heap.size w w' := by
  obtain ⟨w0, hw0⟩ : ∃ w0, w0 = (w.alloc (.cells #[.int .i64 aw, .int .i64 ah, u] 24)).alloc (.cells #[.int .i64 bw, .int .i64 bh, v] 24) := ⟨_, rfl⟩
  have hP : PicB w0 w.heap.size aw ah u := by rw [hw0]; exact (PicB.new' rfl).alloc _
  have hQ : PicB w0 (w.heap.size + 1) bw bh v := by rw [hw0]; exact PicB.new' (by simp)
  have hbel : Below w.heap.size w w0 := by rw [hw0]; exact ((Below.refl _ _).alloc (Nat.le_refl _) _).alloc (by simp) _
  have HU := Lib.hid ((hu.below hbel (Nat.le_refl _)).mono hbel.size)
  have HV := Lib.hid ((hv.below hbel (Nat.le_refl _)).mono hbel.size)
  have HW := Lib.hid hw0
  have hs0 : w.heap.size + 1 < w0.heap.size := by rw [hw0]; simp
  obtain ⟨a1, cap1, rfl, _, hc1⟩ := hu
  obtain ⟨a2, cap2, rfl, _, hc2⟩ := hv
  have HC1 := Lib.hid hc1; have HC2 := Lib.hid hc2
  clear hw0 hc1 hc2
  go_enter Try.func25, Try.ntmps25
  go_wp2_with fail
  rw [← HW.out]
  clear HW
  go_wp2_with (first | refine loadP w.heap.size hP rfl rfl rfl ?_ | refine loadP (w.heap.size + 1) hQ rfl rfl rfl ?_)
  refine (l1Same_any _ _ _ an a _ _ _ bn b _ HU.out HV.out ha hb).mono ?_; rintro e w1 ⟨rfl, hb1⟩
  have hP1 := hP.below hb1 hP.lt
  have hQ1 := hQ.below hb1 hQ.lt
  have hbel1 := hbel.trans (hb1.mono hbel.size)
  clear hP hQ HU HV hbel hb1
  by_cases hp : sameB aw ah an a bw bh bn b = true
  · obtain ⟨q1, q2, q3, q4, hnn, hle, hca, hcb⟩ := sameB_out hp
    have hle1 : an ≤ bn := by omega
    have HE := Lib.hid (show absD aw ah an a bw bh bn b = sumTo (fun i => absI (a i - b i)) an by unfold absD; rw [if_pos hp])
    have HA := Lib.hid hca; have HB := Lib.hid hcb
    clear hca hcb hnn q1 q2 q3 q4
    have p2 := hP1.c2
    have q2 := hQ1.c2
    clear hP1 hQ1
    go_wp2_with fail
    go_loopw [5, 6] (fun s i wr => ∃ k d : Nat, k ≤ an ∧ i = .int .i64 k ∧ s = .int .i64 (sumTo (fun i => absI (a i - b i)) k) ∧ wr = w1.drewN d) (fun _ i _ => an - (intOf i).toNat)
    case atStart => exact ⟨0, 0, by omega, rfl, rfl, rfl⟩
    case round =>
      obtain ⟨k, d, hk, rfl, rfl, rfl⟩ := hrel
      have hbd := abs_bd HA.out HB.out k hk
      by_cases hlt : k < an
      · obtain ⟨g1, o1, rfl, hg1, hcell1⟩ := HC1.out (by omega)
        obtain ⟨g2, o2, rfl, hg2, hcell2⟩ := HC2.out (by omega)
        have c1 := (hbel1.cell (p := ⟨g1, o1 + k, none⟩) hg1).trans (hcell1 k hlt)
        have c2 := (hbel1.cell (p := ⟨g2, o2 + k, none⟩) hg2).trans (hcell2 k (by omega))
        have h1 := HA.out k hlt
        have h2 := HB.out k hlt
        have hk1 : (k : Int) < bn := by omega
        have hk0 : (0 : Int) ≤ k := by omega
        clear hcell1 hcell2 HC1 HC2
        have HM := Lib.hid (show (if a k - b k < b k - a k then b k - a k else a k - b k) = absI (a k - b k) by unfold absI; omega)
        go_wp2_with fail
        go_region
        go_wp2_with fail
        go_roundw
        case rel => exact ⟨k + 1, d + 1, by omega, by go_num, by rw [HM.out]; rfl, rfl⟩
        case measure => simp [intOf]; omega
      · obtain rfl : k = an := by omega
        go_wp2_with fail
        go_ret
        exact ⟨ret_int HE.out.symm, below_drewN hbel1 d⟩
  · have hp : sameB aw ah an a bw bh bn b = false := by simpa using hp
    have HE := Lib.hid (show absD aw ah an a bw bh bn b = -1 by unfold absD; rw [hp]; rfl)
    go_wp2_with fail
    go_ret
    exact ⟨ret_int HE.out.symm, hbel1⟩

theorem iSquaredDifference_any (aw ah : Int) (u : Value) (an : Nat) (a : Nat → Int) (bw bh : Int) (v : Value) (bn : Nat) (b : Nat → Int) (w : World) (hu : Sr .i64 w.heap.size w u an a) (hv : Sr .i64 w.heap.size w v bn b) (ha : an ≤ 1000000000000) (hb : bn ≤ 1000000000000) :
    Calls Try.prog 24 #[.agg #[.int .i64 aw, .int .i64 ah, u], .agg #[.int .i64 bw, .int .i64 bh, v]] w fun e w' => e = .returned (.int .i64 (sqD aw ah an a bw bh bn b)) ∧ Below w.heap.size w w' := by
  obtain ⟨w0, hw0⟩ : ∃ w0, w0 = (w.alloc (.cells #[.int .i64 aw, .int .i64 ah, u] 24)).alloc (.cells #[.int .i64 bw, .int .i64 bh, v] 24) := ⟨_, rfl⟩
  have hP : PicB w0 w.heap.size aw ah u := by rw [hw0]; exact (PicB.new' rfl).alloc _
  have hQ : PicB w0 (w.heap.size + 1) bw bh v := by rw [hw0]; exact PicB.new' (by simp)
  have hbel : Below w.heap.size w w0 := by rw [hw0]; exact ((Below.refl _ _).alloc (Nat.le_refl _) _).alloc (by simp) _
  have HU := Lib.hid ((hu.below hbel (Nat.le_refl _)).mono hbel.size)
  have HV := Lib.hid ((hv.below hbel (Nat.le_refl _)).mono hbel.size)
  have HW := Lib.hid hw0
  have hs0 : w.heap.size + 1 < w0.heap.size := by rw [hw0]; simp
  obtain ⟨a1, cap1, rfl, _, hc1⟩ := hu
  obtain ⟨a2, cap2, rfl, _, hc2⟩ := hv
  have HC1 := Lib.hid hc1; have HC2 := Lib.hid hc2
  clear hw0 hc1 hc2
  go_enter Try.func24, Try.ntmps24
  go_wp2_with fail
  rw [← HW.out]
  clear HW
  go_wp2_with (first | refine loadP w.heap.size hP rfl rfl rfl ?_ | refine loadP (w.heap.size + 1) hQ rfl rfl rfl ?_)
  refine (alike_any _ _ _ an a _ _ _ bn b _ HU.out HV.out ha hb).mono ?_; rintro e w1 ⟨rfl, hb1⟩
  have hP1 := hP.below hb1 hP.lt
  have hQ1 := hQ.below hb1 hQ.lt
  have hbel1 := hbel.trans (hb1.mono hbel.size)
  clear hP hQ HU HV hbel hb1
  by_cases hp : sameB aw ah an a bw bh bn b = true
  · obtain ⟨q1, q2, q3, q4, hnn, hle, hca, hcb⟩ := sameB_out hp
    have hle1 : an ≤ bn := by omega
    have HE := Lib.hid (show sqD aw ah an a bw bh bn b = sumTo (fun i => (a i - b i) * (a i - b i)) an by unfold sqD; rw [if_pos hp])
    have HA := Lib.hid hca; have HB := Lib.hid hcb
    clear hca hcb hnn q1 q2 q3 q4
    have p2 := hP1.c2
    have q2 := hQ1.c2
    clear hP1 hQ1
    go_wp2_with fail
    go_loopw [5, 15] (fun s i wr => ∃ k d : Nat, k ≤ an ∧ i = .int .i64 k ∧ s = .int .i64 (sumTo (fun i => (a i - b i) * (a i - b i)) k) ∧ wr = w1.drewN d) (fun _ i _ => an - (intOf i).toNat)
    case atStart => exact ⟨0, 0, by omega, rfl, rfl, rfl⟩
    case round =>
      obtain ⟨k, d, hk, rfl, rfl, rfl⟩ := hrel
      have hbd := sqs_bd HA.out HB.out k hk
      by_cases hlt : k < an
      · obtain ⟨g1, o1, rfl, hg1, hcell1⟩ := HC1.out (by omega)
        obtain ⟨g2, o2, rfl, hg2, hcell2⟩ := HC2.out (by omega)
        have c1 := (hbel1.cell (p := ⟨g1, o1 + k, none⟩) hg1).trans (hcell1 k hlt)
        have c2 := (hbel1.cell (p := ⟨g2, o2 + k, none⟩) hg2).trans (hcell2 k (by omega))
        have h1 := HA.out k hlt
        have h2 := HB.out k hlt
        have hk1 : (k : Int) < bn := by omega
        have hk0 : (0 : Int) ≤ k := by omega
        clear hcell1 hcell2 HC1 HC2
        have h3 := sq_le (a k - b k) (by omega) (by omega)
        have e1 : IntKind.i64.wrap (a k - b k) = a k - b k := IntWalk.i64_in _ (by omega)
        have e2 : IntKind.i64.wrap ((a k - b k) * (a k - b k)) = (a k - b k) * (a k - b k) := IntWalk.i64_in _ (by omega)
        have e3 : IntKind.i64.wrap (sumTo (fun i => (a i - b i) * (a i - b i)) k + (a k - b k) * (a k - b k)) = sumTo (fun i => (a i - b i) * (a i - b i)) k + (a k - b k) * (a k - b k) := IntWalk.i64_in _ (by omega)
        go_wp2_with fail
        go_quiet (fail)
        go_wp2_with fail
        go_roundw
        case rel => exact ⟨k + 1, _, by omega, by go_num, rfl, rfl⟩
        case measure => simp [intOf]; omega
      · obtain rfl : k = an := by omega
        go_wp2_with fail
        go_ret
        exact ⟨ret_int HE.out.symm, below_drewN hbel1 d⟩
  · have hp : sameB aw ah an a bw bh bn b = false := by simpa using hp
    have HE := Lib.hid (show sqD aw ah an a bw bh bn b = -1 by unfold sqD; rw [hp]; rfl)
    go_wp2_with fail
    go_ret
    exact ⟨ret_int HE.out.symm, hbel1⟩

theorem sSquaredDifference_any (aw ah : Int) (u : Value) (an : Nat) (a : Nat → Int) (bw bh : Int) (v : Value) (bn : Nat) (b : Nat → Int) (w : World) (hu : Sr .i64 w.heap.size w u an a) (hv : Sr .i64 w.heap.size w v bn b) (ha : an ≤ 1000000000000) (hb : bn ≤ 1000000000000) :
    Calls Try.prog 23 #[.agg #[.int .i64 aw, .int .i64 ah, u], .agg #[.int .i64 bw, .int .i64 bh, v]] w fun e w' => e = .returned (.int .i64 (sqD aw ah an a bw bh bn b)) ∧ Below w.heap.size w w' := by
  obtain ⟨w0, hw0⟩ : ∃ w0, w0 = (w.alloc (.cells #[.int .i64 aw, .int .i64 ah, u] 24)).alloc (.cells #[.int .i64 bw, .int .i64 bh, v] 24) := ⟨_, rfl⟩
  have hP : PicB w0 w.heap.size aw ah u := by rw [hw0]; exact (PicB.new' rfl).alloc _
  have hQ : PicB w0 (w.heap.size + 1) bw bh v := by rw [hw0]; exact PicB.new' (by simp)
  have hbel : Below w.heap.size w w0 := by rw [hw0]; exact ((Below.refl _ _).alloc (Nat.le_refl _) _).alloc (by simp) _
  have HU := Lib.hid ((hu.below hbel (Nat.le_refl _)).mono hbel.size)
  have HV := Lib.hid ((hv.below hbel (Nat.le_refl _)).mono hbel.size)
  have HW := Lib.hid hw0
  have hs0 : w.heap.size + 1 < w0.heap.size := by rw [hw0]; simp
  obtain ⟨a1, cap1, rfl, _, hc1⟩ := hu
  obtain ⟨a2, cap2, rfl, _, hc2⟩ := hv
  have HC1 := Lib.hid hc1; have HC2 := Lib.hid hc2
  clear hw0 hc1 hc2
  go_enter Try.func23, Try.ntmps23
  go_wp2_with fail
  rw [← HW.out]
  clear HW
  go_wp2_with (first | refine loadP w.heap.size hP rfl rfl rfl ?_ | refine loadP (w.heap.size + 1) hQ rfl rfl rfl ?_)
  refine (l1Same_any _ _ _ an a _ _ _ bn b _ HU.out HV.out ha hb).mono ?_; rintro e w1 ⟨rfl, hb1⟩
  have hP1 := hP.below hb1 hP.lt
  have hQ1 := hQ.below hb1 hQ.lt
  have hbel1 := hbel.trans (hb1.mono hbel.size)
  clear hP hQ HU HV hbel hb1
  by_cases hp : sameB aw ah an a bw bh bn b = true
  · obtain ⟨q1, q2, q3, q4, hnn, hle, hca, hcb⟩ := sameB_out hp
    have hle1 : an ≤ bn := by omega
    have HE := Lib.hid (show sqD aw ah an a bw bh bn b = sumTo (fun i => (a i - b i) * (a i - b i)) an by unfold sqD; rw [if_pos hp])
    have HA := Lib.hid hca; have HB := Lib.hid hcb
    clear hca hcb hnn q1 q2 q3 q4
    have p2 := hP1.c2
    have q2 := hQ1.c2
    clear hP1 hQ1
    go_wp2_with fail
    go_loopw [5, 6] (fun s i wr => ∃ k d : Nat, k ≤ an ∧ i = .int .i64 k ∧ s = .int .i64 (sumTo (fun i => (a i - b i) * (a i - b i)) k) ∧ wr = w1.drewN d) (fun _ i _ => an - (intOf i).toNat)
    case atStart => exact ⟨0, 0, by omega, rfl, rfl, rfl⟩
    case round =>
      obtain ⟨k, d, hk, rfl, rfl, rfl⟩ := hrel
      have hbd := sqs_bd HA.out HB.out k hk
      by_cases hlt : k < an
      · obtain ⟨g1, o1, rfl, hg1, hcell1⟩ := HC1.out (by omega)
        obtain ⟨g2, o2, rfl, hg2, hcell2⟩ := HC2.out (by omega)
        have c1 := (hbel1.cell (p := ⟨g1, o1 + k, none⟩) hg1).trans (hcell1 k hlt)
        have c2 := (hbel1.cell (p := ⟨g2, o2 + k, none⟩) hg2).trans (hcell2 k (by omega))
        have h1 := HA.out k hlt
        have h2 := HB.out k hlt
        have hk1 : (k : Int) < bn := by omega
        have hk0 : (0 : Int) ≤ k := by omega
        clear hcell1 hcell2 HC1 HC2
        have h3 := sq_le (a k - b k) (by omega) (by omega)
        have e1 : IntKind.i64.wrap (a k - b k) = a k - b k := IntWalk.i64_in _ (by omega)
        have e2 : IntKind.i64.wrap ((a k - b k) * (a k - b k)) = (a k - b k) * (a k - b k) := IntWalk.i64_in _ (by omega)
        have e3 : IntKind.i64.wrap (sumTo (fun i => (a i - b i) * (a i - b i)) k + (a k - b k) * (a k - b k)) = sumTo (fun i => (a i - b i) * (a i - b i)) k + (a k - b k) * (a k - b k) := IntWalk.i64_in _ (by omega)
        have hk2 : (k : Int) < an := by omega
        go_wp2_with fail
        go_quiet (fail)
        go_wp2_with fail
        go_roundw
        case rel => exact ⟨k + 1, _, by omega, by go_num, rfl, rfl⟩
        case measure => simp [intOf]; omega
      · obtain rfl : k = an := by omega
        go_wp2_with fail
        go_ret
        exact ⟨ret_int HE.out.symm, below_drewN hbel1 d⟩
  · have hp : sameB aw ah an a bw bh bn b = false := by simpa using hp
    have HE := Lib.hid (show sqD aw ah an a bw bh bn b = -1 by unfold sqD; rw [hp]; rfl)
    go_wp2_with fail
    go_ret
    exact ⟨ret_int HE.out.symm, hbel1⟩

end Go.Proofs.Ytjogdkeoadkbnaa
