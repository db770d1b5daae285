/- Contracts of ForwardTransform and InverseTransform, of the program and of the reference, and the walks of their exact laws. -/
import Derived.Test.YtammofbncdmccaaApply
namespace Go.Proofs.Ytammofbncdmccaa
open Go.RowKit

def fwdI (b : Nat → Int) (i : Nat) : Int := if okB b 255 then appI b i else 0
def rnd16 (n : Int) : Int := (n + 8) / 16
def invI (b : Nat → Int) (i : Nat) : Int := if okB b 4080 then rnd16 (appI b i) else 0
theorem appI_bd {b : Nat → Int} {m : Int} (h : ∀ k, k < 16 → -m ≤ b k ∧ b k ≤ m) (i : Nat) (hi : i < 16) : -(16 * m) ≤ appI b i ∧ appI b i ≤ 16 * m := by
  have key : ∀ t : Nat, t ≤ 16 → -(m * t : Int) ≤ psum b (i / 4) (i % 4) t ∧ psum b (i / 4) (i % 4) t ≤ m * t := by
    intro t
    induction t with
    | zero => intro _; simp [psum]
    | succ t ih =>
      intro ht
      have a := ih (by omega)
      have c := h t (by omega)
      have p := (pm_mul (sg (4 * (i / 4) + t / 4)) (sg (4 * (i % 4) + t % 4)) (b t) (sg_pm _ (by omega)) (sg_pm _ (by omega))).2
      have e : m * ((t + 1 : Nat) : Int) = m * t + m := by rw [Int.natCast_add, Int.mul_add]; simp
      rw [e]
      simp only [psum]
      omega
  have := key 16 (by omega)
  unfold appI
  omega
theorem ok_mono {b : Nat → Int} {m m' : Int} (hm : m ≤ m') (h : ∀ k, k < 16 → -m ≤ b k ∧ b k ≤ m) : ∀ k, k < 16 → -m' ≤ b k ∧ b k ≤ m' := fun k hk => by have := h k hk; omega

theorem iForward_any (b : Nat → Int) (w : World) :
    Calls Try.prog 13 #[.agg (VN 16 b)] w fun e w' => e = .returned (.agg (VN 16 (fwdI b))) ∧ Below w.heap.size w w' := by
  go_enter Try.func13, Try.ntmps13
  go_wp2_with (refine load16 w.heap.size ((Blk.new w 16 _ b).alloc _) rfl rfl rfl ?_)
  refine (blockWithin_any _ _ _ (by omega) (by omega)).mono ?_; rintro e w1 ⟨rfl, hb⟩
  have hB := ((Blk.new w 16 23 b).alloc _).below hb (by simp; omega)
  have hZ : Blk w1 (w.heap.size + 1) 16 23 (fun _ => 0) := by
    refine Blk.below ?_ hb (by simp)
    rw [← zero16]
    exact Blk.new' (by simp)
  have hbel : Below w.heap.size w w1 := ((((Below.refl _ _).alloc (Nat.le_refl _) _).alloc (by simp) _).trans (hb.mono (by simp; omega)))
  have hsz : w.heap.size + 1 < w1.heap.size := hZ.lt
  clear hb
  by_cases hok : okB b 255 = true
  · have HO := Lib.hid (okB_out hok)
    have HE := Lib.hid (show VN 16 (hadI b) = VN 16 (fwdI b) from VN_congr fun k hk => by unfold fwdI; rw [if_pos hok]; exact hadI_eq b k hk)
    go_wp2_with (refine load16 w.heap.size hB rfl rfl rfl ?_)
    refine (hadamard_any b _ (ok_mono (by omega) HO.out)).mono ?_; rintro e w2 ⟨rfl, hb2⟩
    have hZ2 := hZ.below hb2 (by omega)
    rw [HE.out]
    go_wp2_with (refine store16 (w.heap.size + 1) (fwdI b) hZ2 rfl rfl rfl rfl ?_)
    exact ret16 (w.heap.size + 1) Try.results13 (hZ2.setRow _) rfl rfl ⟨rfl, below_setRow (hbel.trans (hb2.mono (by omega))) (by omega) _⟩
  · have hok : okB b 255 = false := by simpa using hok
    have HE := Lib.hid (show VN 16 (fun _ => 0) = VN 16 (fwdI b) from VN_congr fun k hk => by unfold fwdI; rw [if_neg (by simp [hok])])
    go_wp2_with (refine store16z (w.heap.size + 1) hZ rfl rfl rfl rfl ?_)
    exact ret16 (w.heap.size + 1) Try.results13 (hZ.setRow _) rfl rfl ⟨by rw [HE.out], below_setRow hbel (by omega) _⟩

theorem sForward_any (b : Nat → Int) (w : World) :
    Calls Try.prog 14 #[.agg (VN 16 b)] w fun e w' => e = .returned (.agg (VN 16 (fwdI b))) ∧ Below w.heap.size w w' := by
  go_enter Try.func14, Try.ntmps14
  go_wp2_with (refine load16 w.heap.size ((Blk.new w 16 _ b).alloc _) rfl rfl rfl ?_)
  refine (l3Ok_any _ _ _ (by omega) (by omega)).mono ?_; rintro e w1 ⟨rfl, hb⟩
  have hB := ((Blk.new w 16 23 b).alloc _).below hb (by simp; omega)
  have hZ : Blk w1 (w.heap.size + 1) 16 23 (fun _ => 0) := by
    refine Blk.below ?_ hb (by simp)
    rw [← zero16]
    exact Blk.new' (by simp)
  have hbel : Below w.heap.size w w1 := ((((Below.refl _ _).alloc (Nat.le_refl _) _).alloc (by simp) _).trans (hb.mono (by simp; omega)))
  have hsz : w.heap.size + 1 < w1.heap.size := hZ.lt
  clear hb
  by_cases hok : okB b 255 = true
  · have HO := Lib.hid (okB_out hok)
    have HE := Lib.hid (show VN 16 (appI b) = VN 16 (fwdI b) from VN_congr fun k hk => by unfold fwdI; rw [if_pos hok])
    go_wp2_with (refine load16 w.heap.size hB rfl rfl rfl ?_)
    refine (l3Apply_any b _ (ok_mono (by omega) HO.out)).mono ?_; rintro e w2 ⟨rfl, hb2⟩
    have hZ2 := hZ.below hb2 (by omega)
    rw [HE.out]
    go_wp2_with (refine store16 (w.heap.size + 1) (fwdI b) hZ2 rfl rfl rfl rfl ?_)
    exact ret16 (w.heap.size + 1) Try.results14 (hZ2.setRow _) rfl rfl ⟨rfl, below_setRow (hbel.trans (hb2.mono (by omega))) (by omega) _⟩
  · have hok : okB b 255 = false := by simpa using hok
    have HE := Lib.hid (show VN 16 (fun _ => 0) = VN 16 (fwdI b) from VN_congr fun k hk => by unfold fwdI; rw [if_neg (by simp [hok])])
    go_wp2_with (refine store16z (w.heap.size + 1) hZ rfl rfl rfl rfl ?_)
    exact ret16 (w.heap.size + 1) Try.results14 (hZ.setRow _) rfl rfl ⟨by rw [HE.out], below_setRow hbel (by omega) _⟩

theorem rnd16_eq (n : Int) (_h1 : -65280 ≤ n) (_h2 : n ≤ 65280) : rnd16 n = (if (n + 8).tmod 16 < 0 then (n + 8).tdiv 16 - 1 else (n + 8).tdiv 16) := by
  unfold rnd16
  rw [Int.tmod_eq_emod, Int.tdiv_eq_ediv, show Int.sign 16 = 1 from rfl, show Int.natAbs 16 = 16 from rfl]
  by_cases h : 0 ≤ n + 8 ∨ (16 : Int) ∣ n + 8
  · simp only [h, if_true]; omega
  · simp only [h, if_false]; omega
theorem l3Round_any (n : Int) (w : World) (h1 : -65280 ≤ n) (h2 : n ≤ 65280) :
    Calls Try.prog 41 #[.int .i64 n, .int .i64 16] w fun e w' => e = .returned (.int .i64 (rnd16 n)) ∧ w = w' := by
  have HE := Lib.hid (rnd16_eq n h1 h2)
  have hd : -65300 ≤ (n + 8).tdiv 16 ∧ (n + 8).tdiv 16 ≤ 65300 := by rw [Int.tdiv_eq_ediv, show Int.sign 16 = 1 from rfl]; omega
  by_cases h : (n + 8).tmod 16 < 0
  all_goals
    go_enter Try.func41, Try.ntmps41
    go_wp2
    go_ret
    exact ⟨ret_int (by rw [HE.out]; first | rw [if_pos h] | rw [if_neg (by omega)]), rfl⟩

theorem l3Inverse_any (b : Nat → Int) (w : World) (hb : ∀ k, k < 16 → -4080 ≤ b k ∧ b k ≤ 4080) :
    Calls Try.prog 29 #[.agg (VN 16 b)] w fun e w' => e = .returned (.agg (VN 16 (fun i => rnd16 (appI b i)))) ∧ Below w.heap.size w w' := by
  have HB := Lib.hid hb; clear hb
  go_enter Try.func29, Try.ntmps29
  go_wp2_with (refine load16 w.heap.size ((Blk.new w 16 _ b).alloc _) rfl rfl rfl ?_)
  refine (l3Apply_any b _ HB.out).mono ?_; rintro e w1 ⟨rfl, hb⟩
  have hZ : Blk w1 (w.heap.size + 1) 16 23 (fun _ => 0) := by
    refine Blk.below ?_ hb (by simp)
    rw [← zero16]
    exact Blk.new' (by simp)
  have hbel : Below w.heap.size w w1 := ((((Below.refl _ _).alloc (Nat.le_refl _) _).alloc (by simp) _).trans (hb.mono (by simp; omega)))
  have hsz : w.heap.size + 1 < w1.heap.size := hZ.lt
  clear hb
  have hN : Blk (w1.alloc (.cells #[.int .i64 0, .int .i64 0, .int .i64 0, .int .i64 0, .int .i64 0, .int .i64 0, .int .i64 0, .int .i64 0, .int .i64 0, .int .i64 0, .int .i64 0, .int .i64 0, .int .i64 0, .int .i64 0, .int .i64 0, .int .i64 0] 23)) w1.heap.size 16 23 (fun _ => 0) := by rw [← zero16]; exact Blk.new _ _ _ _
  go_wp2_with (refine store16 w1.heap.size (appI b) hN rfl rfl rfl rfl ?_)
  go_loopw [4] (fun i wr => ∃ k : Nat, k ≤ 16 ∧ i = .int .i64 k ∧ Blk wr w1.heap.size 16 23 (fun i => if i < k then rnd16 (appI b i) else appI b i) ∧ Blk wr (w.heap.size + 1) 16 23 (fun _ => 0) ∧ Below w.heap.size w wr) (fun i _ => 16 - (intOf i).toNat)
  case atStart => exact ⟨0, by omega, rfl, hN.setRow _, (hZ.alloc _).setRowOther _ _ (by omega), below_setRow (hbel.alloc (by omega) _) (by omega) _⟩
  case round =>
    clear hZ hbel hN
    obtain ⟨k, hk, rfl, hA, hZ, hbel⟩ := hrel
    by_cases hlt : k < 16
    · have c1 : wr.cell? ⟨w1.heap.size, k, none⟩ = some (.int .i64 (appI b k)) := by have := hA.cell k hlt; rwa [if_neg (by omega)] at this
      have f1 := hA.frozen k
      have hbd := appI_bd HB.out k hlt
      go_wp2_with fail
      refine (l3Round_any _ _ (by omega) (by omega)).mono ?_; rintro e w' ⟨rfl, rfl⟩
      go_wp2_with fail
      go_roundw
      case rel =>
        refine ⟨k + 1, by omega, by go_num, (hA.set k _).congr (fun j hj => ?_), hZ.other (by omega), hbel.setCell (by simp; omega) _⟩
        by_cases e : j = k
        · subst e; rw [if_pos rfl, if_pos (by omega)]
        · by_cases e2 : j < k
          · rw [if_neg e, if_pos e2, if_pos (by omega)]
          · rw [if_neg e, if_neg e2, if_neg (by omega)]
      case measure => simp [intOf]; omega
    · have hR : Blk wr w1.heap.size 16 23 (fun i => rnd16 (appI b i)) := hA.congr (fun j hj => by rw [if_pos (by omega)])
      go_wp2_with (first | refine load16 w1.heap.size hR rfl rfl rfl ?_ | refine store16 (w.heap.size + 1) (fun i => rnd16 (appI b i)) hZ rfl rfl rfl rfl ?_)
      exact ret16 (w.heap.size + 1) Try.results29 (hZ.setRow _) rfl rfl ⟨rfl, below_setRow hbel (by omega) _⟩
theorem sInverse_any (b : Nat → Int) (w : World) :
    Calls Try.prog 18 #[.agg (VN 16 b)] w fun e w' => e = .returned (.agg (VN 16 (invI b))) ∧ Below w.heap.size w w' := by
  go_enter Try.func18, Try.ntmps18
  go_wp2_with (refine load16 w.heap.size ((Blk.new w 16 _ b).alloc _) rfl rfl rfl ?_)
  refine (l3Ok_any _ _ _ (by omega) (by omega)).mono ?_; rintro e w1 ⟨rfl, hb⟩
  have hB := ((Blk.new w 16 23 b).alloc _).below hb (by simp; omega)
  have hZ : Blk w1 (w.heap.size + 1) 16 23 (fun _ => 0) := by
    refine Blk.below ?_ hb (by simp)
    rw [← zero16]
    exact Blk.new' (by simp)
  have hbel : Below w.heap.size w w1 := ((((Below.refl _ _).alloc (Nat.le_refl _) _).alloc (by simp) _).trans (hb.mono (by simp; omega)))
  have hsz : w.heap.size + 1 < w1.heap.size := hZ.lt
  clear hb
  by_cases hok : okB b 4080 = true
  · have HO := Lib.hid (okB_out hok)
    have HE := Lib.hid (show VN 16 (fun i => rnd16 (appI b i)) = VN 16 (invI b) from VN_congr fun k hk => by unfold invI; rw [if_pos hok])
    go_wp2_with (refine load16 w.heap.size hB rfl rfl rfl ?_)
    refine (l3Inverse_any b _ HO.out).mono ?_; rintro e w2 ⟨rfl, hb2⟩
    have hZ2 := hZ.below hb2 (by omega)
    rw [HE.out]
    go_wp2_with (refine store16 (w.heap.size + 1) (invI b) hZ2 rfl rfl rfl rfl ?_)
    exact ret16 (w.heap.size + 1) Try.results18 (hZ2.setRow _) rfl rfl ⟨rfl, below_setRow (hbel.trans (hb2.mono (by omega))) (by omega) _⟩
  · have hok : okB b 4080 = false := by simpa using hok
    have HE := Lib.hid (show VN 16 (fun _ => 0) = VN 16 (invI b) from VN_congr fun k hk => by unfold invI; rw [if_neg (by simp [hok])])
    go_wp2_with (refine store16z (w.heap.size + 1) hZ rfl rfl rfl rfl ?_)
    exact ret16 (w.heap.size + 1) Try.results18 (hZ.setRow _) rfl rfl ⟨by rw [HE.out], below_setRow hbel (by omega) _⟩

theorem iInverse_any (b : Nat → Int) (w : World) :
    Calls Try.prog 17 #[.agg (VN 16 b)] w fun e w' => e = .returned (.agg (VN 16 (invI b))) ∧ Below w.heap.size w w' := by
  go_enter Try.func17, Try.ntmps17
  go_wp2_with (refine load16 w.heap.size ((Blk.new w 16 _ b).alloc _) rfl rfl rfl ?_)
  refine (blockWithin_any _ _ _ (by omega) (by omega)).mono ?_; rintro e w1 ⟨rfl, hb⟩
  have hB := ((Blk.new w 16 23 b).alloc _).below hb (by simp; omega)
  have hZ : Blk w1 (w.heap.size + 1) 16 23 (fun _ => 0) := by
    refine Blk.below ?_ hb (by simp)
    rw [← zero16]
    exact Blk.new' (by simp)
  have hbel : Below w.heap.size w w1 := ((((Below.refl _ _).alloc (Nat.le_refl _) _).alloc (by simp) _).trans (hb.mono (by simp; omega)))
  have hsz : w.heap.size + 1 < w1.heap.size := hZ.lt
  clear hb
  by_cases hok : okB b 4080 = true
  · have HO := Lib.hid (okB_out hok)
    have HE := Lib.hid (show VN 16 (fun i => rnd16 (hadI b i)) = VN 16 (invI b) from VN_congr fun k hk => by unfold invI; rw [if_pos hok, hadI_eq b k hk])
    have HI := Lib.hid (run_index16 (hadI b))
    have HBD := Lib.hid (fun k hk => (show -65280 ≤ hadI b k ∧ hadI b k ≤ 65280 by rw [hadI_eq b k hk]; exact appI_bd HO.out k hk))
    go_wp2_with (refine load16 w.heap.size hB rfl rfl rfl ?_)
    refine (hadamard_any b _ HO.out).mono ?_; rintro e w2 ⟨rfl, hb2⟩
    have hZ2 := hZ.below hb2 (by omega)
    have hbel2 := hbel.trans (hb2.mono (by omega))
    have hsz2 := Nat.lt_of_lt_of_le hsz hb2.size
    clear hB hZ hbel hb2
    have hN : Blk (w2.alloc (.cells #[.int .i64 0, .int .i64 0, .int .i64 0, .int .i64 0, .int .i64 0, .int .i64 0, .int .i64 0, .int .i64 0, .int .i64 0, .int .i64 0, .int .i64 0, .int .i64 0, .int .i64 0, .int .i64 0, .int .i64 0, .int .i64 0] 23)) w2.heap.size 16 23 (fun _ => 0) := by rw [← zero16]; exact Blk.new _ _ _ _
    have hM := hN.setRow (hadI b)
    go_wp2_with (first | refine store16 w2.heap.size (hadI b) hN rfl rfl rfl rfl ?_ | refine load16 w2.heap.size hM rfl rfl rfl ?_)
    go_loopw [13] (fun i wr => ∃ k : Nat, k ≤ 16 ∧ i = .int .i64 k ∧ Blk wr w2.heap.size 16 23 (fun i => if i < k then rnd16 (hadI b i) else hadI b i) ∧ Blk wr (w.heap.size + 1) 16 23 (fun _ => 0) ∧ Below w.heap.size w wr) (fun i _ => 16 - (intOf i).toNat)
    case atStart => exact ⟨0, by omega, rfl, hM, (hZ2.alloc _).setRowOther _ _ (by omega), below_setRow (hbel2.alloc (by omega) _) (by omega) _⟩
    case round =>
      clear hZ2 hbel2 hN hM
      obtain ⟨k, hk, rfl, hA, hZ, hbel⟩ := hrel
      by_cases hlt : k < 16
      · have c1 : wr.cell? ⟨w2.heap.size, k, none⟩ = some (.int .i64 (hadI b k)) := by have := hA.cell k hlt; rwa [if_neg (by omega)] at this
        have f1 := hA.frozen k
        have hi := HI.out k hlt
        have hbd := HBD.out k hlt
        go_wp2
        go_roundw
        case rel =>
          refine ⟨k + 1, by omega, by go_num, (hA.set k _).congr (fun j hj => ?_), hZ.other (by omega), hbel.setCell (by simp; omega) _⟩
          by_cases e : j = k
          · subst e; rw [if_pos rfl, if_pos (by omega)]
            rfl
          · by_cases e2 : j < k
            · rw [if_neg e, if_pos e2, if_pos (by omega)]
            · rw [if_neg e, if_neg e2, if_neg (by omega)]
        case measure => simp [intOf]; omega
      · have hR : Blk wr w2.heap.size 16 23 (invI b) := by
          unfold Blk; rw [← HE.out]; exact hA.congr (fun j hj => by rw [if_pos (by omega)])
        go_wp2_with (first | refine load16 w2.heap.size hR rfl rfl rfl ?_ | refine store16 (w.heap.size + 1) (invI b) hZ rfl rfl rfl rfl ?_)
        exact ret16 (w.heap.size + 1) Try.results17 (hZ.setRow _) rfl rfl ⟨rfl, below_setRow hbel (by omega) _⟩
  · have hok : okB b 4080 = false := by simpa using hok
    have HE := Lib.hid (show VN 16 (fun _ => 0) = VN 16 (invI b) from VN_congr fun k hk => by unfold invI; rw [if_neg (by simp [hok])])
    go_wp2_with (refine store16z (w.heap.size + 1) hZ rfl rfl rfl rfl ?_)
    exact ret16 (w.heap.size + 1) Try.results17 (hZ.setRow _) rfl rfl ⟨by rw [HE.out], below_setRow hbel (by omega) _⟩
end Go.Proofs.Ytammofbncdmccaa
