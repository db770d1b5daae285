/- Contracts of NewPicture of the reference, and of Transpose of both. -/
import Derived.Test.YtinmfeflbaeodaaPic2
import Derived.Deep.RegionHeld3
namespace Go.Proofs.Ytinmfeflbaeodaa
open Go.RowKit

theorem PicB.grown {w w' : World} {row : Option Nat} {g : Nat} {pw ph : Int} {v : Value} (h : PicB w g pw ph v) (hg : w.grownBy w' row) (hne : row ≠ some g) : PicB w' g pw ph v := (hg.block g h.lt (Ne.symm hne)).trans h
theorem Blk.grown {w w' : World} {row : Option Nat} {g n : Nat} {t : TypeId} {b : Nat → Int} (h : Blk w g n t b) (hg : w.grownBy w' row) (hne : row ≠ some g) : Blk w' g n t b := (hg.block g h.lt (Ne.symm hne)).trans h
theorem new_cell' (w : World) (v : Value) (t : TypeId) : (w.alloc (.cells #[v] t)).cell? ⟨w.heap.size, 0, none⟩ = some v := by rw [cell_of_row _ _ 0 _ _ _ (heap_alloc_new w _)]; rfl
/-- A picture in new memory is handed back. -/
def GaveP (pw ph : Int) (n : Nat) (f : Nat → Int) (w : World) (e : Ending) (w' : World) : Prop := ∃ a c, e = .returned (.agg #[.int .i64 pw, .int .i64 ph, .slice a n c]) ∧ Sn .i64 w.heap.size w'.heap.size w' (.slice a n c) n f ∧ Below w.heap.size w w'
theorem GaveP.zero {pw ph : Int} {n : Nat} {f : Nat → Int} {w w' : World} (h1 : pw = 0) (h2 : ph = 0) (h3 : n = 0) (hb : Below w.heap.size w w') : GaveP pw ph n f w (.returned (.agg #[.int .i64 0, .int .i64 0, .slice none 0 0])) w' := by
  subst h1; subst h2; subst h3
  exact ⟨_, _, rfl, ⟨_, _, rfl, Nat.le_refl _, fun h => absurd h (by omega)⟩, hb⟩
theorem GaveP.own {pw ph : Int} {n : Nat} {f : Nat → Int} {w w' : World} {v : Value} {base : Nat} (ho : OwnK .i64 3 base w' v n f) (hb : w.heap.size ≤ base) (hbel : Below w.heap.size w w') : GaveP pw ph n f w (.returned (.agg #[.int .i64 pw, .int .i64 ph, v])) w' := by
  have h := ho.sn.mono hb (Nat.le_refl _)
  obtain ⟨a, c, rfl, hn, hc⟩ := h
  exact ⟨a, c, rfl, ⟨a, c, rfl, hn, hc⟩, hbel⟩
/-- Blocks from lo on and below hi may have been written; there may be new ones. -/
structure ModB (lo hi : Nat) (w w' : World) : Prop where
  os : w'.os = w.os
  tape : w'.tape = w.tape
  output : w'.output = w.output
  size : w.heap.size ≤ w'.heap.size
  block : ∀ k, k < w.heap.size → (k < lo ∨ hi ≤ k) → w'.heap[k]? = w.heap[k]?
theorem ModB.below {lo hi B : Nat} {w w' : World} (h : ModB lo hi w w') (hB : B ≤ lo ∧ B ≤ w.heap.size) : Below B w w' := ⟨h.os, h.tape, h.output, h.size, fun k hk => h.block k (by omega) (by omega)⟩
theorem Sn.modB {k : IntKind} {lo hi lo' hi' : Nat} {w w' : World} {v : Value} {n : Nat} {b : Nat → Int} (h : Sn k lo hi w v n b) (hm : ModB lo' hi' w w') (hd : (hi ≤ lo' ∨ hi' ≤ lo) ∧ hi ≤ w.heap.size) : Sn k lo hi w' v n b := h.kept fun g h1 h2 => hm.block g (by omega) (by omega)
theorem Sr.modB {k : IntKind} {hi lo' hi' : Nat} {w w' : World} {v : Value} {n : Nat} {b : Nat → Int} (h : Sr k hi w v n b) (hm : ModB lo' hi' w w') (hd : hi ≤ lo' ∧ hi ≤ w.heap.size) : Sr k hi w' v n b := h.kept fun g h1 => hm.block g (by omega) (by omega)
theorem PicB.modB {lo hi : Nat} {w w' : World} {g : Nat} {pw ph : Int} {v : Value} (h : PicB w g pw ph v) (hm : ModB lo hi w w') (hd : g < lo ∨ hi ≤ g) : PicB w' g pw ph v := (hm.block g h.lt hd).trans h
def newN (pw ph v : Int) : Nat := if newB pw ph v then (pw * ph).toNat else 0
def newS (pw ph v x : Int) : Int := if newB pw ph v then x else 0
theorem iNew_gave (pw ph v : Int) (w : World) :
    Calls Try.prog 19 #[.int .i64 pw, .int .i64 ph, .int .i64 v] w (GaveP (newS pw ph v pw) (newS pw ph v ph) (newN pw ph v) (fun _ => v) w) :=
  (NewPicture_any pw ph v w).mono fun e w' h => by
    unfold NewP at h
    unfold newS newN
    by_cases hb : newB pw ph v = true
    · rw [if_pos hb] at h
      obtain ⟨g, he, hg, hB, hbel⟩ := h
      simp only [hb, if_true]
      exact ⟨_, _, he, Sn.of_blk hB hg hB.lt, hbel⟩
    · rw [if_neg hb] at h
      have hb : newB pw ph v = false := by simpa using hb
      rw [h.1]
      exact GaveP.zero (by rw [hb]; rfl) (by rw [hb]; rfl) (by rw [hb]; rfl) h.2

theorem newB_no {pw ph v : Int} (h : ¬ (8 ≤ pw ∧ pw ≤ 32 ∧ pw % 8 = 0) ∨ ¬ (8 ≤ ph ∧ ph ≤ 32 ∧ ph % 8 = 0) ∨ ¬ (0 ≤ v ∧ v ≤ 255)) : newB pw ph v = false := by
  unfold newB sideB
  rcases h with h | h | h
  · rw [decide_eq_false h]; rfl
  · rw [decide_eq_false h, Bool.and_false]; rfl
  · rw [decide_eq_false h, Bool.and_false]
theorem sNewPicture_any (pw ph v : Int) (w : World) :
    Calls Try.prog 20 #[.int .i64 pw, .int .i64 ph, .int .i64 v] w (GaveP (newS pw ph v pw) (newS pw ph v ph) (newN pw ph v) (fun _ => v) w) := by
  have hP : PicB (w.alloc (.cells #[.int .i64 0, .int .i64 0, .slice none 0 0] 25)) w.heap.size 0 0 (.slice none 0 0) := PicB.new' rfl
  have hbel : Below w.heap.size w (w.alloc (.cells #[.int .i64 0, .int .i64 0, .slice none 0 0] 25)) := (Below.refl _ _).alloc (Nat.le_refl _) _
  have bad : newB pw ph v = false → Hid (GaveP (newS pw ph v pw) (newS pw ph v ph) (newN pw ph v) (fun _ => v) w (.returned (.agg #[.int .i64 0, .int .i64 0, .slice none 0 0])) ((w.alloc (.cells #[.int .i64 0, .int .i64 0, .slice none 0 0] 25)).setRow w.heap.size #[.int .i64 0, .int .i64 0, .slice none 0 0])) := fun h =>
    GaveP.zero (by unfold newS; rw [h]; rfl) (by unfold newS; rw [h]; rfl) (by unfold newN; rw [h]; rfl) (below_setRow hbel (Nat.le_refl _) _)
  by_cases h1 : pw < 8 ∨ 32 < pw
  · have HB := bad (newB_no (by omega)); clear bad
    have H1 := Lib.hid h1; clear h1
    go_enter Try.func20, Try.ntmps20
    go_wp2_with fail
    refine (l1In_no _ _ _ _ H1.out).mono ?_; rintro e _ ⟨rfl, rfl⟩
    go_wp2_with (refine storeP w.heap.size hP rfl rfl rfl rfl rfl ?_)
    exact retP w.heap.size Try.results20 (hP.setRow _ _ _) rfl rfl HB.out
  · have a1 : 8 ≤ pw := by omega
    have a2 : pw ≤ 32 := by omega
    clear h1
    by_cases h1 : ph < 8 ∨ 32 < ph
    · have HB := bad (newB_no (by omega)); clear bad
      have H1 := Lib.hid h1; clear h1
      go_enter Try.func20, Try.ntmps20
      go_wp2_with fail
      refine (l1In_yes _ _ _ _ a1 a2).mono ?_; rintro e _ ⟨rfl, rfl⟩
      go_wp2_with fail
      refine (l1In_no _ _ _ _ H1.out).mono ?_; rintro e _ ⟨rfl, rfl⟩
      go_wp2_with (refine storeP w.heap.size hP rfl rfl rfl rfl rfl ?_)
      exact retP w.heap.size Try.results20 (hP.setRow _ _ _) rfl rfl HB.out
    · have b1 : 8 ≤ ph := by omega
      have b2 : ph ≤ 32 := by omega
      clear h1
      by_cases h1 : pw % 8 = 0
      · by_cases h2 : ph % 8 = 0
        · have e1 : (pw % 8 != 0) = false := by simp [h1]
          have e2 : (ph % 8 != 0) = false := by simp [h2]
          have s1 := sideB_in ⟨a1, a2, h1⟩
          have s2 := sideB_in ⟨b1, b2, h2⟩
          clear h1 h2
          by_cases h3 : v < 0 ∨ 255 < v
          · have HB := bad (newB_no (by omega)); clear bad
            have H3 := Lib.hid h3; clear h3
            go_enter Try.func20, Try.ntmps20
            go_wp2_with fail
            refine (l1In_yes _ _ _ _ a1 a2).mono ?_; rintro e _ ⟨rfl, rfl⟩
            go_wp2_with fail
            refine (l1In_yes _ _ _ _ b1 b2).mono ?_; rintro e _ ⟨rfl, rfl⟩
            go_wp2_with fail
            refine (l1In_no _ _ _ _ H3.out).mono ?_; rintro e _ ⟨rfl, rfl⟩
            go_wp2_with (refine storeP w.heap.size hP rfl rfl rfl rfl rfl ?_)
            exact retP w.heap.size Try.results20 (hP.setRow _ _ _) rfl rfl HB.out
          · clear bad
            have v0 : 0 ≤ v := by omega
            have v1 : v ≤ 255 := by omega
            have hm := side_mul pw ph s1 s2
            obtain ⟨n, hn⟩ : ∃ n : Nat, pw * ph = (n : Int) := ⟨(pw * ph).toNat, by omega⟩
            have hb : newB pw ph v = true := by unfold newB; rw [s1, s2, decide_eq_true ⟨v0, v1⟩]; rfl
            have E1 := Lib.hid (show newS pw ph v pw = pw by unfold newS; rw [if_pos hb])
            have E2 := Lib.hid (show newS pw ph v ph = ph by unfold newS; rw [if_pos hb])
            have E3 := Lib.hid (show newN pw ph v = n by unfold newN; rw [if_pos hb, hn]; simp)
            rw [E1.out, E2.out, E3.out]
            have hn1 : 64 ≤ n := by omega
            have hn2 : n ≤ 1024 := by omega
            have HN := Lib.hid hn
            clear hn hb s1 s2 E1 E2 E3 h3
            go_enter Try.func20, Try.ntmps20
            go_wp2_with fail
            refine (l1In_yes _ _ _ _ a1 a2).mono ?_; rintro e _ ⟨rfl, rfl⟩
            go_wp2_with fail
            refine (l1In_yes _ _ _ _ b1 b2).mono ?_; rintro e _ ⟨rfl, rfl⟩
            go_wp2_with fail
            refine (l1In_yes _ _ _ _ v0 v1).mono ?_; rintro e _ ⟨rfl, rfl⟩
            go_wp2_with fail
            go_loopw [8] (fun i wr => ∃ (k : Nat) (u : Value), k ≤ n ∧ i = .int .i64 k ∧ PicB wr w.heap.size 0 0 (.slice none 0 0) ∧ PicB wr (w.heap.size + 1) pw ph u ∧ OwnK .i64 3 (w.heap.size + 2) wr u k (fun _ => v) ∧ Below w.heap.size w wr) (fun i _ => n - (intOf i).toNat)
            case atStart => exact ⟨0, _, by omega, rfl, hP.alloc _, PicB.new' (by simp), OwnK.nil _ _ _ _ _, hbel.alloc (by simp) _⟩
            case round =>
              clear hP hbel
              obtain ⟨k, u, hk, rfl, hP, hQ, hO, hbel⟩ := hrel
              have hs := hQ.lt
              by_cases hlt : k < n
              · have c1 := hQ.c2
                have hlt' : (k : Int) < pw * ph := by rw [HN.out]; omega
                go_wp2_with (at_builtin; refine appendInt (w.heap.size + 2) _ wr.heap.size (hO.alloc _) (new_cell' _ _ _) (by omega) (by simp; omega) rfl rfl rfl rfl ?_; intro v' w1 hO1 hgrow hat; have hu1 : u.ownBlock ≠ some (w.heap.size + 1) := (fun e => by have := (hO.lt _ e).1; omega); have hQ1 := (hQ.alloc (.cells #[.int .i64 v] 3)).grown hgrow hu1; have c2 := hQ1.c2; have f2 := hQ1.fr 2; obtain ⟨g', cap', rfl, hcap', hg1, hg2, _⟩ := hO1.form (by omega))
                have hu0 : u.ownBlock ≠ some w.heap.size := (fun e => by have := (hO.lt _ e).1; omega)
                have hP1 := (hP.alloc (.cells #[.int .i64 v] 3)).grown hgrow hu0
                have hbel1 := grown_below (hbel.alloc hbel.size (.cells #[.int .i64 v] 3)) hgrow (hO.alloc _) (by omega) (by simp; omega)
                have hO2 := hO1.congr (g := fun _ => v) (fun i _ => by by_cases e : i = k <;> simp [e])
                clear hP hQ hO hbel hgrow hat hO1
                go_roundw
                case rel => exact ⟨k + 1, _, by omega, by go_num, hP1.other (by omega), hQ1.set2 _, hO2.setCell (by simp [Value.ownBlock]; omega) _, hbel1.setCell (by simp) _⟩
                case measure => simp [intOf]; omega
              · obtain rfl : k = n := by omega
                have hnl : ¬ (k : Int) < pw * ph := by rw [HN.out]; omega
                have hO3 := hO.kept (w' := wr.setRow w.heap.size #[.int .i64 pw, .int .i64 ph, u]) (fun g hg => heap_setRow_other _ _ _ _ (by have := (hO.lt g hg).1; omega))
                have HF := Lib.hid (GaveP.own (pw := pw) (ph := ph) hO3 (by omega) (below_setRow hbel (Nat.le_refl _) #[.int .i64 pw, .int .i64 ph, u]))
                have hu : u.oneCell' = true := by
                  rcases hO.2 with ⟨rfl, _⟩ | ⟨g, cap, cur, rfl, _⟩ <;> rfl
                go_wp2_with (first | refine loadP (w.heap.size + 1) hQ rfl rfl rfl ?_ | refine storeP w.heap.size hP hu rfl rfl rfl rfl ?_)
                exact retP w.heap.size Try.results20 (hP.setRow _ _ _) rfl rfl HF.out
        · have HB := bad (newB_no (by omega)); clear bad
          have e1 : (pw % 8 != 0) = false := by simp [h1]
          have e2 : (ph % 8 != 0) = true := by simp [h2]
          clear h1 h2
          go_enter Try.func20, Try.ntmps20
          go_wp2_with fail
          refine (l1In_yes _ _ _ _ a1 a2).mono ?_; rintro e _ ⟨rfl, rfl⟩
          go_wp2_with fail
          refine (l1In_yes _ _ _ _ b1 b2).mono ?_; rintro e _ ⟨rfl, rfl⟩
          go_wp2_with (refine storeP w.heap.size hP rfl rfl rfl rfl rfl ?_)
          exact retP w.heap.size Try.results20 (hP.setRow _ _ _) rfl rfl HB.out
      · have HB := bad (newB_no (by omega)); clear bad
        have e1 : (pw % 8 != 0) = true := by simp [h1]
        clear h1
        go_enter Try.func20, Try.ntmps20
        go_wp2_with fail
        refine (l1In_yes _ _ _ _ a1 a2).mono ?_; rintro e _ ⟨rfl, rfl⟩
        go_wp2_with fail
        refine (l1In_yes _ _ _ _ b1 b2).mono ?_; rintro e _ ⟨rfl, rfl⟩
        go_wp2_with (refine storeP w.heap.size hP rfl rfl rfl rfl rfl ?_)
        exact retP w.heap.size Try.results20 (hP.setRow _ _ _) rfl rfl HB.out
theorem row_any (W H y n : Nat) (g off cap : Nat) (b : Nat → Int) (w : World) (hp : pvB W H n b = true) (hn : n ≤ cap) (hy : y < H) :
    Calls Try.prog 37 #[.agg #[.int .i64 (W : Int), .int .i64 (H : Int), .slice (some ⟨g, off, none⟩) n cap], .int .i64 (y : Int)] w fun e w' => e = .returned (.slice (some ⟨g, off + y * W, none⟩) W (cap - y * W)) ∧ Below w.heap.size w w' := by
  obtain ⟨s1, s2, hnn, _⟩ := pvB_out hp
  have s1 := sideB_out s1
  have s2 := sideB_out s2
  have hnn' : n = W * H := by have := hnn; omega
  have m1 : y * W + W ≤ n := by
    have : (y + 1) * W ≤ H * W := Nat.mul_le_mul_right W hy
    rw [Nat.add_mul, Nat.one_mul, Nat.mul_comm H W] at this
    omega
  have m2 : y * W ≤ 1024 := by
    have h1 : y * W ≤ 32 * W := Nat.mul_le_mul_right W (by omega)
    omega
  have e1 : IntKind.i64.wrap ((y : Int) * (W : Int)) = ((y * W : Nat) : Int) := by rw [IntWalk.i64_in _ (by rw [← Int.natCast_mul]; omega)]; simp
  have e2 : ((y : Int) + 1) * (W : Int) = ((y * W + W : Nat) : Int) := by rw [Int.add_mul]; simp
  have hbel : Below w.heap.size w (w.alloc (.cells #[.int .i64 (W : Int), .int .i64 (H : Int), .slice (some ⟨g, off, none⟩) n cap] 25)) := (Below.refl _ _).alloc (Nat.le_refl _) _
  have q1 : (y : Int) * (W : Int) = ((y * W : Nat) : Int) := by simp
  have HQ1 := Lib.hid q1; have HE2 := Lib.hid e2
  have hcap : ¬ cap = y * W := by omega
  have b1 : 0 ≤ (y : Int) * (W : Int) := by rw [q1]; omega
  have b2 : (y : Int) * (W : Int) ≤ 1024 := by rw [q1]; omega
  have b3 : 0 ≤ ((y : Int) + 1) * (W : Int) := by rw [e2]; omega
  have b4 : ((y : Int) + 1) * (W : Int) ≤ 2048 := by rw [e2]; omega
  have b5 : ((y : Int) + 1) * (W : Int) ≤ cap := by rw [e2]; omega
  have b6 : (y : Int) * (W : Int) ≤ ((y : Int) + 1) * (W : Int) := by rw [q1, e2]; omega
  have t1 : ((y : Int) * (W : Int)).toNat = y * W := by rw [q1]; exact Int.toNat_natCast _
  have t2 : (((y : Int) + 1) * (W : Int)).toNat = y * W + W := by rw [e2]; exact Int.toNat_natCast _
  clear hp hnn hnn' q1 e1 e2
  go_enter Try.func37, Try.ntmps37
  go_wp2_with fail
  go_ret
  exact ⟨rfl, hbel⟩
/-- The transpose, as far as it has been written: all rows below y, and of row y what is left of x. -/
def trTo (b : Nat → Int) (W H y x : Nat) (i : Nat) : Int := if i % H < y ∨ (i % H = y ∧ i / H < x) then b (trAt W H i) else 0
theorem trTo_step (b : Nat → Int) (W H y x i : Nat) (hy : y < H) : (if i = x * H + y then b (y * W + x) else trTo b W H y x i) = trTo b W H y (x + 1) i := by
  unfold trTo
  by_cases e : i = x * H + y
  · subst e
    have e1 : (x * H + y) % H = y := by rw [Nat.add_comm, Nat.add_mul_mod_self_right, Nat.mod_eq_of_lt hy]
    have e2 : (x * H + y) / H = x := by rw [Nat.add_comm, Nat.add_mul_div_right _ _ (by omega), Nat.div_eq_of_lt hy, Nat.zero_add]
    rw [if_pos rfl, if_pos (Or.inr ⟨e1, by omega⟩), tr_at W H x y hy]
  · rw [if_neg e]
    have hd := Nat.div_add_mod i H
    by_cases c : i % H < y ∨ (i % H = y ∧ i / H < x)
    · rw [if_pos c, if_pos (by omega)]
    · rw [if_neg c, if_neg (fun h => ?_)]
      rcases h with h | ⟨h1, h2⟩
      · exact c (Or.inl h)
      · have : i / H = x := by
          rcases Nat.lt_or_ge (i / H) x with h3 | h3
          · exact absurd (Or.inr ⟨h1, h3⟩) c
          · omega
        apply e
        rw [this, h1, Nat.mul_comm] at hd
        exact hd.symm
theorem trTo_row (b : Nat → Int) (W H y i : Nat) (hi : i < W * H) : trTo b W H y W i = trTo b W H (y + 1) 0 i := by
  have hH : 0 < H := by
    rcases Nat.eq_zero_or_pos H with rfl | h0
    · simp at hi
    · exact h0
  have h1 : i / H < W := (Nat.div_lt_iff_lt_mul hH).2 hi
  unfold trTo
  by_cases c : i % H < y + 1
  · rw [if_pos (by omega), if_pos (Or.inl c)]
  · rw [if_neg (by omega), if_neg (fun h => h.elim c (fun h => Nat.not_lt_zero _ h.2))]
theorem trTo_all (b : Nat → Int) (W H i : Nat) (hi : i < W * H) : trTo b W H H 0 i = b (trAt W H i) := by
  have hH : 0 < H := by
    rcases Nat.eq_zero_or_pos H with rfl | h0
    · simp at hi
    · exact h0
  unfold trTo
  rw [if_pos (Or.inl (Nat.mod_lt _ hH))]
def trS (pw ph : Int) (n : Nat) (b : Nat → Int) (x : Int) : Int := if pvB pw ph n b then x else 0
def trN (pw ph : Int) (n : Nat) (b : Nat → Int) : Nat := if pvB pw ph n b then n else 0
def trF (pw ph : Int) (b : Nat → Int) (i : Nat) : Int := b (trAt pw.toNat ph.toNat i)
set_option maxHeartbeats 1000000 in
theorem iTranspose_any (pw ph : Int) (v : Value) (n : Nat) (b : Nat → Int) (w : World) (h : Sr .i64 w.heap.size w v n b) (hn : n ≤ 1000000000000) :
    Calls Try.prog 12 #[.agg #[.int .i64 pw, .int .i64 ph, v]] w (GaveP (trS pw ph n b ph) (trS pw ph n b pw) (trN pw ph n b) (trF pw ph b) w) := by
  obtain ⟨w0, hw0⟩ : ∃ w0, w0 = (w.alloc (.cells #[.int .i64 pw, .int .i64 ph, v] 25)).alloc (.cells #[.int .i64 0, .int .i64 0, .slice none 0 0] 25) := ⟨_, rfl⟩
  have hP : PicB w0 w.heap.size pw ph v := by rw [hw0]; exact (PicB.new' rfl).alloc _
  have hZ : PicB w0 (w.heap.size + 1) 0 0 (.slice none 0 0) := by rw [hw0]; exact PicB.new' (by simp)
  have hbel : Below w.heap.size w w0 := by rw [hw0]; exact ((Below.refl _ _).alloc (Nat.le_refl _) _).alloc (by simp) _
  have HS := Lib.hid ((h.below hbel (Nat.le_refl _)).mono hbel.size)
  have HW := Lib.hid hw0
  obtain ⟨a, cap, rfl, hcap, hc⟩ := h
  have HC := Lib.hid hc
  clear hw0 hc
  go_enter Try.func12, Try.ntmps12
  go_wp2_with fail
  rw [← HW.out]
  clear HW
  go_wp2_with (refine loadP w.heap.size hP rfl rfl rfl ?_)
  refine (iPictureValid_any _ _ _ n b _ HS.out hn).mono ?_; rintro e w1 ⟨rfl, hb1⟩
  have hP1 := hP.below hb1 hP.lt
  have hZ1 := hZ.below hb1 hZ.lt
  have hbel1 := hbel.trans (hb1.mono hbel.size)
  have hs1 := hZ1.lt
  clear hP hZ HS hbel hb1
  by_cases hp : pvB pw ph n b = true
  · obtain ⟨s1, s2, hnn, _⟩ := pvB_out hp
    have sw := sideB_out s1
    have sh := sideB_out s2
    have hnb : newB ph pw 0 = true := by unfold newB; rw [s1, s2]; rfl
    have E1 := Lib.hid (show trS pw ph n b ph = ph by unfold trS; rw [if_pos hp])
    have E2 := Lib.hid (show trS pw ph n b pw = pw by unfold trS; rw [if_pos hp])
    have E3 := Lib.hid (show trN pw ph n b = n by unfold trN; rw [if_pos hp])
    have HN := Lib.hid hnn
    have HP := Lib.hid hp
    obtain ⟨W, rfl⟩ := Int.eq_ofNat_of_zero_le (a := pw) (by omega)
    obtain ⟨H, rfl⟩ := Int.eq_ofNat_of_zero_le (a := ph) (by omega)
    have hnW : n = W * H := by have := hnn; rw [← Int.natCast_mul] at this; exact Int.ofNat.inj this
    obtain ⟨g, off, rfl, hg, hcell⟩ := HC.out (by have := side_mul _ _ s1 s2; omega)
    have HX := Lib.hid hcell
    have hn2 : n ≤ 1024 := by have := side_mul _ _ s1 s2; omega
    have HNW := Lib.hid hnW
    clear hcell HC hnn s1 s2 hnW
    have c0 := hP1.c0
    have c1 := hP1.c1
    go_wp2_with fail
    refine (NewPicture_any _ _ 0 _).mono ?_; intro e w2 hnew
    unfold NewP at hnew
    rw [if_pos hnb] at hnew
    obtain ⟨q, rfl, hq, hB, hb2⟩ := hnew
    have hmn : ((H : Int) * (W : Int)).toNat = n := by rw [HNW.out, ← Int.natCast_mul, Int.toNat_natCast, Nat.mul_comm]
    rw [hmn] at hB ⊢
    have hP2 := hP1.below hb2 hP1.lt
    have hZ2 := hZ1.below hb2 hZ1.lt
    have hbel2 := hbel1.trans (hb2.mono hbel1.size)
    have hs2 := hZ2.lt
    have hq2 := hB.lt
    clear hP1 hZ1 hbel1 hb2 hnb hmn c0 c1
    have HNw := Lib.hid (show PicB (w2.alloc (.cells #[.int .i64 0, .int .i64 0, .slice none 0 0] 25)) w2.heap.size 0 0 (.slice none 0 0) from PicB.new' rfl)
    obtain ⟨w3, hw3⟩ : ∃ w3, w3 = (w2.alloc (.cells #[.int .i64 0, .int .i64 0, .slice none 0 0] 25)).setRow w2.heap.size #[.int .i64 (H : Int), .int .i64 (W : Int), .slice (some ⟨q, 0, none⟩) n n] := ⟨_, rfl⟩
    have hO : PicB w3 w2.heap.size (H : Int) (W : Int) (.slice (some ⟨q, 0, none⟩) n n) := by rw [hw3]; exact HNw.out.setRow _ _ _
    have hb3 : Below w2.heap.size w2 w3 := by rw [hw3]; exact below_setRow ((Below.refl _ _).alloc (Nat.le_refl _) _) (Nat.le_refl _) _
    have hP3 := hP2.below hb3 hP2.lt
    have hZ3 := hZ2.below hb3 hs2
    have hB3 := hB.below hb3 hq2
    have hbel3 := hbel2.trans (hb3.mono hbel2.size)
    have HW := Lib.hid hw3
    have hs3 := hO.lt
    clear hw3 hb3 hP2 hZ2 hB hbel2
    have c1 := hP3.c1
    go_wp2_with (refine storeP w2.heap.size HNw.out rfl rfl rfl rfl rfl ?_; rw [← HW.out])
    clear HW HNw c1
    go_loopw [18] (fun i wr => ∃ y : Nat, y ≤ H ∧ i = .int .i64 y ∧ Blk wr q n 3 (trTo b W H y 0) ∧ PicB wr w.heap.size (W : Int) (H : Int) (.slice (some ⟨g, off, none⟩) n cap) ∧ PicB wr (w.heap.size + 1) 0 0 (.slice none 0 0) ∧ PicB wr w2.heap.size (H : Int) (W : Int) (.slice (some ⟨q, 0, none⟩) n n) ∧ Below w.heap.size w wr) (fun i _ => H - (intOf i).toNat)
    case atStart => exact ⟨0, by omega, rfl, hB3.congr (fun j _ => by unfold trTo; rw [if_neg (fun h => h.elim (Nat.not_lt_zero _) (fun h => Nat.not_lt_zero _ h.2))]), hP3, hZ3, hO, hbel3⟩
    case round =>
      clear hB3 hP3 hZ3 hO hbel3
      obtain ⟨wo, rfl⟩ : ∃ wo : World, wo = wr := ⟨_, rfl⟩
      obtain ⟨y, hy, rfl, hB, hP, hZ, hO, hbel⟩ := hrel
      by_cases hlt : y < H
      · go_wp2_with (refine loadP w.heap.size hP rfl rfl rfl ?_)
        refine (row_any W H y n g off cap b _ HP.out hcap hlt).mono ?_; rintro e w4 ⟨rfl, hb4⟩
        have hB4 := hB.below hb4 hB.lt
        have hP4 := hP.below hb4 hP.lt
        have hZ4 := hZ.below hb4 hZ.lt
        have hO4 := hO.below hb4 hO.lt
        have hbel4 := hbel.trans (hb4.mono hbel.size)
        clear hB hP hZ hO hbel hb4
        go_wp2_with fail
        go_loopw [25] (fun i wr => ∃ x : Nat, x ≤ W ∧ i = .int .i64 x ∧ Blk wr q n 3 (trTo b W H y x) ∧ PicB wr w.heap.size (W : Int) (H : Int) (.slice (some ⟨g, off, none⟩) n cap) ∧ PicB wr (w.heap.size + 1) 0 0 (.slice none 0 0) ∧ PicB wr w2.heap.size (H : Int) (W : Int) (.slice (some ⟨q, 0, none⟩) n n) ∧ Below w.heap.size w wr) (fun i _ => W - (intOf i).toNat)
        case atStart => exact ⟨0, by omega, rfl, hB4, hP4, hZ4, hO4, hbel4⟩
        case round =>
          clear hB4 hP4 hZ4 hO4 hbel4
          obtain ⟨x, hx, rfl, hB, hP, hZ, hO, hbel⟩ := hrel
          by_cases hxl : x < W
          · have hi1 := idx_lt hxl hlt
            have hi2 := idx_lt (w := H) (h := W) hlt hxl
            have c1 := (hbel.cell (p := ⟨g, off + (y * W + x), none⟩) hg).trans (HX.out (y * W + x) (by have := HNW.out; omega))
            rw [← Nat.add_assoc] at c1
            have hin : x * H + y < n := by rw [HNW.out]; first | exact hi2 | exact Nat.mul_comm H W ▸ hi2
            have c2 := hB.cell (x * H + y) hin
            have f2 := hB.frozen (x * H + y)
            have c3 := hO.c2
            have c4 := hO.c0
            have qx : (x : Int) * (H : Int) = ((x * H : Nat) : Int) := by simp
            have b1 : 0 ≤ (x : Int) * (H : Int) := by rw [qx]; omega
            have b2 : (x : Int) * (H : Int) ≤ 1024 := by rw [qx]; omega
            have b3 : (x : Int) * (H : Int) + (y : Int) < n := by rw [qx]; omega
            have t1 : ((x : Int) * (H : Int) + (y : Int)).toNat = x * H + y := by rw [qx, ← Int.natCast_add, Int.toNat_natCast]
            clear qx hi1 hi2
            go_wp2_with fail
            go_roundw
            case rel => exact ⟨x + 1, by omega, by go_num, (hB.set (x * H + y) _).congr (fun j _ => trTo_step b W H y x j hlt), hP.other (by omega), hZ.other (by omega), hO.other (by omega), hbel.setCell (by simp; omega) _⟩
            case measure => simp [intOf]; omega
          · obtain rfl : x = W := by omega
            go_wp2_with fail
            go_roundw
            case rel => exact ⟨y + 1, by omega, by go_num, hB.congr (fun j hj => trTo_row b x H y j (by have := HNW.out; omega)), hP, hZ, hO, hbel⟩
            case measure => simp [intOf]; omega
      · obtain rfl : y = H := by omega
        have hB5 := hB.congr (c := trF (W : Int) (y : Int) b) (fun j hj => by rw [trTo_all b W y j (by have := HNW.out; omega)]; rfl)
        have hbel5 := below_setRow hbel (g := w.heap.size + 1) (by omega) #[.int .i64 (y : Int), .int .i64 (W : Int), .slice (some ⟨q, 0, none⟩) n n]
        have hB6 := hB5.setRowOther (w.heap.size + 1) #[.int .i64 (y : Int), .int .i64 (W : Int), .slice (some ⟨q, 0, none⟩) n n] (by omega)
        have HF := Lib.hid (show GaveP (trS W y n b y) (trS W y n b W) (trN W y n b) (trF W y b) w (.returned (.agg #[.int .i64 (y : Int), .int .i64 (W : Int), .slice (some ⟨q, 0, none⟩) n n])) (wo.setRow (w.heap.size + 1) #[.int .i64 (y : Int), .int .i64 (W : Int), .slice (some ⟨q, 0, none⟩) n n]) by
          rw [E1.out, E2.out, E3.out]
          exact ⟨_, _, rfl, Sn.of_blk hB6 (by omega) hB6.lt, hbel5⟩)
        go_wp2_with (first | refine loadP w2.heap.size hO rfl rfl rfl ?_ | refine storeP (w.heap.size + 1) hZ rfl rfl rfl rfl rfl ?_)
        exact retP (w.heap.size + 1) Try.results12 (hZ.setRow _ _ _) rfl rfl HF.out
  · have hp : pvB pw ph n b = false := by simpa using hp
    have HF := Lib.hid (show GaveP (trS pw ph n b ph) (trS pw ph n b pw) (trN pw ph n b) (trF pw ph b) w (.returned (.agg #[.int .i64 0, .int .i64 0, .slice none 0 0])) (w1.setRow (w.heap.size + 1) #[.int .i64 0, .int .i64 0, .slice none 0 0]) from
      GaveP.zero (by unfold trS; rw [hp]; rfl) (by unfold trS; rw [hp]; rfl) (by unfold trN; rw [hp]; rfl) (below_setRow hbel1 (by omega) _))
    go_wp2_with (refine storeP (w.heap.size + 1) hZ1 rfl rfl rfl rfl rfl ?_)
    exact retP (w.heap.size + 1) Try.results12 (hZ1.setRow _ _ _) rfl rfl HF.out
end Go.Proofs.Ytinmfeflbaeodaa
