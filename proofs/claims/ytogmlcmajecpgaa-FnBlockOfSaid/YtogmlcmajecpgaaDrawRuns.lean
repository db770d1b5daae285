/- Drawing a list of runs. -/
import Derived.Test.YtogmlcmajecpgaaRunsOf
import Derived.Test.YtogmlcmajecpgaaDrawBlock2
import Derived.Deep.Cut
namespace Go.Proofs.Ytogmlcmajecpgaa
open Go.RowKit

/-- A list of runs has been drawn. -/
def RDrawn (w : World) (e : Ending) (w' : World) : Prop := ∃ (v : Value) (l : List (Int × Int)), e = .returned v ∧ SnR w.heap.size w'.heap.size w' v l ∧ l.length ≤ 17 ∧ (v = .slice none 0 0 ∨ ∃ ad m c, v = .slice (some ad) m c) ∧ Below w.heap.size w w'
theorem OwnR.form {base : Nat} {w : World} {v : Value} {l : List (Int × Int)} (h : OwnR base w v l) : v = .slice none 0 0 ∨ ∃ ad m c, v = .slice (some ad) m c := by
  rcases h.2 with ⟨rfl, _⟩ | ⟨g, cap, cur, rfl, _⟩
  · exact .inl rfl
  · exact .inr ⟨_, _, _, rfl⟩
theorem zr_set {l : List (Int × Int)} {j i : Nat} (x y : Int) (h : i < l.length) : zr (l.set j (x, y)) i = if i = j then x else zr l i := by
  rw [zr_at (by simpa using h), zr_at h, List.getElem_set]
  by_cases e : j = i
  · rw [if_pos e, if_pos e.symm]
  · rw [if_neg e, if_neg (fun h => e h.symm)]
theorem lv_set {l : List (Int × Int)} {j i : Nat} (x y : Int) (h : i < l.length) : lv (l.set j (x, y)) i = if i = j then y else lv l i := by
  rw [lv_at (by simpa using h), lv_at h, List.getElem_set]
  by_cases e : j = i
  · rw [if_pos e, if_pos e.symm]
  · rw [if_neg e, if_neg (fun h => e h.symm)]
theorem SnR.setZ {lo hi g off cap : Nat} {w : World} {l : List (Int × Int)} (h : SnR lo hi w (.slice (some ⟨g, off, none⟩) l.length cap) l) {j : Nat} (hj : j < l.length) (x : Int) :
    SnR lo hi (w.setCell ⟨g, off + j * 2, none⟩ (.int .i64 x)) (.slice (some ⟨g, off, none⟩) l.length cap) (l.set j (x, lv l j)) := by
  obtain ⟨a', cap', e', hn', hcl⟩ := h
  obtain ⟨g', off', e'', h1, h2, hcl⟩ := hcl (by omega)
  cases e'
  cases e''
  refine ⟨_, _, by rw [List.length_set], by rw [List.length_set]; exact hn', fun _ => ⟨g, off, rfl, h1, h2, fun i hi => ?_⟩⟩
  rw [List.length_set] at hi
  obtain ⟨⟨c1, c2⟩, f1, f2⟩ := hcl i hi
  rw [zr_set _ _ hi, lv_set _ _ hi, World.frozen?_setCell, World.frozen?_setCell]
  refine ⟨⟨?_, ?_⟩, f1, f2⟩
  · by_cases e : i = j
    · subst e
      rw [if_pos rfl]
      exact World.cell?_setCell_same' _ _ _ (by rw [c1]; rfl)
    · rw [if_neg e, World.cell?_setCell_other _ _ _ _ (fun h => by injection h; omega)]
      exact c1
  · rw [World.cell?_setCell_other _ _ _ _ (fun h => by injection h; omega), c2]
    by_cases e : i = j
    · subst e; rw [if_pos rfl]
    · rw [if_neg e]
set_option maxRecDepth 100000 in
set_option maxHeartbeats 4000000 in
theorem DrawBlockOf_any (v : Value) (n : Nat) (c : Nat → Int) (w : World) (h : SlB w.heap.size w v n c) (hn : n ≤ 1000000000000) :
    Calls Try.prog 31 #[v] w (RDrawn w) := by
  have HS := Lib.hid h; clear h
  go_enter Try.func31, Try.ntmps31
  go_wp2_with fail
  refine (l20Open_any v n c _ HS.out hn).mono ?_; rintro e w1 ⟨rfl, hr1, hb1, hz1⟩
  have HB := Lib.hid hb1
  have HR := Lib.hid hr1
  have hl1 := hr1.lt
  clear hr1 hb1 HS
  go_wp2_with fail
  refine (l20Block_any _ _ 0 90 0 _ HR.out (by omega) (by omega) (by omega) (by omega) (by omega)).mono ?_; rintro e w2 ⟨b, rfl, _, hr, hu⟩
  have z2 := hu.size
  replace HB := Lib.hid (HB.out.trans (hu.below (Nat.le_refl _) (by omega)))
  replace HR := Lib.hid hr
  clear hr hu
  go_wp2_with fail
  refine (sRunsOf_any b _).mono ?_; rintro e w3 ⟨u, rfl, ho, hb⟩
  have z3 := hb.size
  have hlb := runsB_len b
  replace HB := Lib.hid (HB.out.trans (hb.mono (by omega)))
  replace HR := Lib.hid (HR.out.below hb (by omega))
  have HO := Lib.hid (OwnR.base ho (show w.heap.size + 1 ≤ w2.heap.size by omega))
  clear ho hb
  generalize runsB b = l at *
  go_wp2_with fail
  refine (pick_any _ _ (0 + 40) 3 _ HR.out (by omega) (by omega)).mono ?_; rintro e w4 ⟨k4, rfl, k40, k41, hr, ho⟩
  have zw4 : w3.heap.size = w4.heap.size := by have := ho.size; simpa using this.symm
  replace HR := Lib.hid hr
  replace HB := Lib.hid (HB.out.trans (ho.but.below (Nat.le_refl _) (by have := HB.out.size; simp <;> omega)))
  replace HO := Lib.hid (OwnR.kept (HO.out) (fun g hg => ho.block g (by have := (OwnR.lt HO.out g hg).1; omega)))
  clear hr ho
  by_cases hk4 : k4 = 0
  · subst hk4
    go_wp2_with fail
    refine (pick_any _ _ (0 + 40 + 1) 4 _ HR.out (by omega) (by omega)).mono ?_; rintro e w5 ⟨k5, rfl, k50, k51, hr, ho⟩
    have zw5 : w4.heap.size = w5.heap.size := by have := ho.size; simpa using this.symm
    replace HR := Lib.hid hr
    replace HB := Lib.hid (HB.out.trans (ho.but.below (Nat.le_refl _) (by have := HB.out.size; simp <;> omega)))
    replace HO := Lib.hid (OwnR.kept (HO.out) (fun g hg => ho.block g (by have := (OwnR.lt HO.out g hg).1; omega)))
    clear hr ho
    go_wp2_with fail
    refine (pick_any _ _ (0 + 40 + 1 + 1) 3 _ HR.out (by omega) (by omega)).mono ?_; rintro e w6 ⟨k6, rfl, k60, k61, hr, ho⟩
    have zw6 : w5.heap.size = w6.heap.size := by have := ho.size; simpa using this.symm
    replace HR := Lib.hid hr
    replace HB := Lib.hid (HB.out.trans (ho.but.below (Nat.le_refl _) (by have := HB.out.size; simp <;> omega)))
    replace HO := Lib.hid (OwnR.kept (HO.out) (fun g hg => ho.block g (by have := (OwnR.lt HO.out g hg).1; omega)))
    clear hr ho
    skip
    go_upto_region 5 with (at_builtin; refine appendRun (w.heap.size + 1) (k5 - 1) (k6 - 1) w6.heap.size (OwnR.alloc HO.out _) (RunB.new' rfl) (by omega) (by simp; omega) rfl rfl rfl rfl ?_; intro v' w7 hO2 hgrow hat; have HO2 := Lib.hid hO2; clear hO2)
    have hne : ∀ g, u.ownBlock = some g → w.heap.size + 1 ≤ g := fun g e => (OwnR.lt HO.out g e).1
    have hR7 : Rd w.heap.size w7 w.heap.size (0 + 40 + 1 + 1 + 1) := HR.out.kept (fun g hg => (hgrow.block g (by simp; omega) (fun e => by have := hne _ e.symm; omega)).trans (Below.heap_alloc _ _ g (by omega)))
    have hB7 : Below w.heap.size w w7 := (HB.out.alloc HB.out.size _).grown hgrow (by simp; omega) (fun g e => by have := hne _ e; omega)
    have z7 : w6.heap.size + 1 ≤ w7.heap.size := by have := hgrow.size; simpa using this
    replace HR := Lib.hid hR7; replace HB := Lib.hid hB7; replace HO := HO2
    clear hR7 hB7 HO2 hgrow hat hne
    have hll : (l ++ [(k5 - 1, k6 - 1)]).length ≤ 17 := by simp; omega
    generalize l ++ [(k5 - 1, k6 - 1)] = l' at *
    have hS := OwnR.sn HO.out
    have hS0 := hS
    obtain ⟨a, cap, rfl, hcap, hx⟩ := hS0
    obtain ⟨n, hn⟩ : ∃ n, (l').length = n := ⟨_, rfl⟩
    have HN := Lib.hid hn
    have hn17 : n ≤ 17 := by rw [← hn]; first | omega | (simp; omega)
    rw [hn] at hcap hx hS HO ⊢
    clear hn
    have HX := Lib.hid hx; clear hx
    by_cases h0 : n = 0
    · subst h0
      go_wp2_with fail
      go_ret
      exact ⟨_, _, rfl, hS.mono (by omega) (Nat.le_refl _), by rw [HN.out]; omega, OwnR.form HO.out, HB.out⟩
    · have h0i : (0 : Int) < (n : Int) := by omega
      clear hS
      go_wp2_with fail
      refine (odd_any _ _ (0 + 40 + 1 + 1 + 1) 4 _ HR.out (by omega) (by omega) (by omega)).mono ?_; rintro e w8 ⟨kb, rfl, hr, ho⟩
      have zw8 : w7.heap.size = w8.heap.size := by have := ho.size; simpa using this.symm
      replace HR := Lib.hid hr; replace HB := Lib.hid (HB.out.trans (ho.but.below (Nat.le_refl _) (by have := HB.out.size; omega)))
      replace HO := Lib.hid (OwnR.kept HO.out (fun g hg => ho.block g (by have := (OwnR.lt HO.out g hg).1; omega)))
      clear hr ho
      cases kb
      · have hS := OwnR.sn HO.out
        go_wp2_with fail
        go_ret
        exact ⟨_, _, rfl, hS.mono (by omega) (Nat.le_refl _), by rw [HN.out]; omega, OwnR.form HO.out, HB.out⟩
      · skip
        go_wp2_with fail
        refine (pick_any _ _ (0 + 40 + 1 + 1 + 1 + 1) n _ HR.out (by omega) (by omega)).mono ?_; rintro e w9 ⟨kj, rfl, kj0, kj1, hr, ho⟩
        have zw9 : w8.heap.size = w9.heap.size := by have := ho.size; simpa using this.symm
        replace HR := Lib.hid hr
        replace HB := Lib.hid (HB.out.trans (ho.but.below (Nat.le_refl _) (by have := HB.out.size; simp <;> omega)))
        replace HO := Lib.hid (OwnR.kept (HO.out) (fun g hg => ho.block g (by have := (OwnR.lt HO.out g hg).1; omega)))
        clear hr ho
        obtain ⟨j, rfl⟩ := Int.eq_ofNat_of_zero_le kj0
        have hj : j < n := by omega
        go_wp2_with fail
        refine (pick_any _ _ (0 + 40 + 1 + 1 + 1 + 1 + 1) 4 _ (HR.out.alloc _) (by omega) (by omega)).mono ?_; rintro e w10 ⟨kv, rfl, kv0, kv1, hr, ho⟩
        have zw10 : w9.heap.size + 1 = w10.heap.size := by have := ho.size; simpa using this.symm
        replace HR := Lib.hid hr
        replace HB := Lib.hid ((HB.out.alloc HB.out.size _).trans (ho.but.below (Nat.le_refl _) (by have := HB.out.size; simp <;> omega)))
        replace HO := Lib.hid (OwnR.kept (OwnR.alloc HO.out _) (fun g hg => ho.block g (by have := (OwnR.lt HO.out g hg).1; omega)))
        have hlit := (ho.block w9.heap.size (by omega)).trans (heap_alloc_new w9 _)
        clear hr ho
        obtain ⟨j4, rfl⟩ := Int.eq_ofNat_of_zero_le kv0
        have hj4 : j4 < 4 := by omega
        have hc4 := lit_cell [-1, 15, 16, 9223372036854775807] hlit j4 hj4
        generalize pickL [-1, 15, 16, 9223372036854775807] j4 = x at *
        have hS := OwnR.sn HO.out
        have hS0 := hS
        rw [← HN.out] at hS
        obtain ⟨a2, c2, e2, _, hx2⟩ := hS0
        obtain ⟨g, off, rfl, hg1, hg2, hx2⟩ := hx2 (by rw [HN.out]; omega)
        injection e2 with ea en ec; subst ea; subst ec; clear en
        have hcj := hx2 j (by rw [HN.out]; exact hj)
        have c1 := hcj.1.1; have f1 := hcj.2.1
        obtain ⟨y, hy⟩ : ∃ y, zr (l') j = y := ⟨_, rfl⟩
        rw [hy] at c1; clear hy hcj hx2
        have hj1 : (j : Int) < (n : Int) := by omega
        have HZ := Lib.hid (SnR.setZ hS (j := j) (by rw [HN.out]; exact hj) x)
        clear hS HO HX
        go_wp2_with fail
        go_ret
        have hF := HZ.out
        rw [HN.out] at hF
        exact ⟨_, _, rfl, hF.mono (by omega) (by simp), by rw [List.length_set, HN.out]; omega, .inr ⟨_, _, _, rfl⟩, HB.out.setCell (p := ⟨g, off + j * 2, none⟩) (by simp; omega) _⟩
  · have e4 : (k4 == 0) = false := by simp [hk4]
    have hS := OwnR.sn HO.out
    have hS0 := hS
    obtain ⟨a, cap, rfl, hcap, hx⟩ := hS0
    obtain ⟨n, hn⟩ : ∃ n, (l).length = n := ⟨_, rfl⟩
    have HN := Lib.hid hn
    have hn17 : n ≤ 17 := by rw [← hn]; first | omega | (simp; omega)
    rw [hn] at hcap hx hS HO ⊢
    clear hn
    have HX := Lib.hid hx; clear hx
    by_cases h0 : n = 0
    · subst h0
      go_wp2_with fail
      go_ret
      exact ⟨_, _, rfl, hS.mono (by omega) (Nat.le_refl _), by rw [HN.out]; omega, OwnR.form HO.out, HB.out⟩
    · have h0i : (0 : Int) < (n : Int) := by omega
      clear hS
      go_wp2_with fail
      refine (odd_any _ _ (0 + 40 + 1) 4 _ HR.out (by omega) (by omega) (by omega)).mono ?_; rintro e w5 ⟨kb, rfl, hr, ho⟩
      have zw5 : w4.heap.size = w5.heap.size := by have := ho.size; simpa using this.symm
      replace HR := Lib.hid hr; replace HB := Lib.hid (HB.out.trans (ho.but.below (Nat.le_refl _) (by have := HB.out.size; omega)))
      replace HO := Lib.hid (OwnR.kept HO.out (fun g hg => ho.block g (by have := (OwnR.lt HO.out g hg).1; omega)))
      clear hr ho
      cases kb
      · have hS := OwnR.sn HO.out
        go_wp2_with fail
        go_ret
        exact ⟨_, _, rfl, hS.mono (by omega) (Nat.le_refl _), by rw [HN.out]; omega, OwnR.form HO.out, HB.out⟩
      · skip
        go_wp2_with fail
        refine (pick_any _ _ (0 + 40 + 1 + 1) n _ HR.out (by omega) (by omega)).mono ?_; rintro e w6 ⟨kj, rfl, kj0, kj1, hr, ho⟩
        have zw6 : w5.heap.size = w6.heap.size := by have := ho.size; simpa using this.symm
        replace HR := Lib.hid hr
        replace HB := Lib.hid (HB.out.trans (ho.but.below (Nat.le_refl _) (by have := HB.out.size; simp <;> omega)))
        replace HO := Lib.hid (OwnR.kept (HO.out) (fun g hg => ho.block g (by have := (OwnR.lt HO.out g hg).1; omega)))
        clear hr ho
        obtain ⟨j, rfl⟩ := Int.eq_ofNat_of_zero_le kj0
        have hj : j < n := by omega
        go_wp2_with fail
        refine (pick_any _ _ (0 + 40 + 1 + 1 + 1) 4 _ (HR.out.alloc _) (by omega) (by omega)).mono ?_; rintro e w7 ⟨kv, rfl, kv0, kv1, hr, ho⟩
        have zw7 : w6.heap.size + 1 = w7.heap.size := by have := ho.size; simpa using this.symm
        replace HR := Lib.hid hr
        replace HB := Lib.hid ((HB.out.alloc HB.out.size _).trans (ho.but.below (Nat.le_refl _) (by have := HB.out.size; simp <;> omega)))
        replace HO := Lib.hid (OwnR.kept (OwnR.alloc HO.out _) (fun g hg => ho.block g (by have := (OwnR.lt HO.out g hg).1; omega)))
        have hlit := (ho.block w6.heap.size (by omega)).trans (heap_alloc_new w6 _)
        clear hr ho
        obtain ⟨j4, rfl⟩ := Int.eq_ofNat_of_zero_le kv0
        have hj4 : j4 < 4 := by omega
        have hc4 := lit_cell [-1, 15, 16, 9223372036854775807] hlit j4 hj4
        generalize pickL [-1, 15, 16, 9223372036854775807] j4 = x at *
        have hS := OwnR.sn HO.out
        have hS0 := hS
        rw [← HN.out] at hS
        obtain ⟨a2, c2, e2, _, hx2⟩ := hS0
        obtain ⟨g, off, rfl, hg1, hg2, hx2⟩ := hx2 (by rw [HN.out]; omega)
        injection e2 with ea en ec; subst ea; subst ec; clear en
        have hcj := hx2 j (by rw [HN.out]; exact hj)
        have c1 := hcj.1.1; have f1 := hcj.2.1
        obtain ⟨y, hy⟩ : ∃ y, zr (l) j = y := ⟨_, rfl⟩
        rw [hy] at c1; clear hy hcj hx2
        have hj1 : (j : Int) < (n : Int) := by omega
        have HZ := Lib.hid (SnR.setZ hS (j := j) (by rw [HN.out]; exact hj) x)
        clear hS HO HX
        go_wp2_with fail
        go_ret
        have hF := HZ.out
        rw [HN.out] at hF
        exact ⟨_, _, rfl, hF.mono (by omega) (by simp), by rw [List.length_set, HN.out]; omega, .inr ⟨_, _, _, rfl⟩, HB.out.setCell (p := ⟨g, off + j * 2, none⟩) (by simp; omega) _⟩
end Go.Proofs.Ytogmlcmajecpgaa
