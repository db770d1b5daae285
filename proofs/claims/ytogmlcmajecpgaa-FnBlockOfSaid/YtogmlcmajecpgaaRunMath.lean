/- Plain mathematics of the runs of a block in scan order: no program in sight. -/
import Derived.Test.YtogmlcmajecpgaaScan
namespace Go.Proofs.Ytogmlcmajecpgaa
open Go.RowKit

/-- One level more: a run, or a zero more. -/
def rStep (s : List (Int × Int) × Nat) (x : Int) : List (Int × Int) × Nat := if x = 0 then (s.1, s.2 + 1) else (s.1 ++ [((s.2 : Int), x)], 0)
/-- The runs of the first n levels, and the number of zeros behind them. -/
def rTo (f : Nat → Int) : Nat → List (Int × Int) × Nat
  | 0 => ([], 0)
  | n + 1 => rStep (rTo f n) (f n)
theorem rTo_zero {f : Nat → Int} {n : Nat} (h : f n = 0) : rTo f (n + 1) = ((rTo f n).1, (rTo f n).2 + 1) := by simp only [rTo, rStep, if_pos h]
theorem rTo_level {f : Nat → Int} {n : Nat} (h : f n ≠ 0) : rTo f (n + 1) = ((rTo f n).1 ++ [(((rTo f n).2 : Int), f n)], 0) := by simp only [rTo, rStep, if_neg h]
theorem rTo_congr {f g : Nat → Int} : ∀ n, (∀ k, k < n → f k = g k) → rTo f n = rTo g n
  | 0, _ => rfl
  | n + 1, h => by simp only [rTo]; rw [rTo_congr n (fun k hk => h k (by omega)), h n (by omega)]
theorem rTo_len (f : Nat → Int) : ∀ n, (rTo f n).1.length + (rTo f n).2 ≤ n
  | 0 => by simp [rTo]
  | n + 1 => by
    have := rTo_len f n
    by_cases h : f n = 0
    · rw [rTo_zero h]; simp only; omega
    · rw [rTo_level h]; simp; omega
/-- Every run has a level that is not 0, and zeros below 16. -/
theorem rTo_all (f : Nat → Int) : ∀ n, ∀ r ∈ (rTo f n).1, r.2 ≠ 0 ∧ 0 ≤ r.1 ∧ r.1 < n
  | 0, r, hr => by simp [rTo] at hr
  | n + 1, r, hr => by
    have hl := rTo_len f n
    by_cases h : f n = 0
    · rw [rTo_zero h] at hr
      have := rTo_all f n r hr
      omega
    · rw [rTo_level h] at hr
      simp only [List.mem_append, List.mem_singleton] at hr
      rcases hr with hr | rfl
      · have := rTo_all f n r hr
        omega
      · exact ⟨h, by simp only; omega, by simp only; omega⟩
/-- All zeros and runs together. -/
def zsum : List (Int × Int) → Int
  | [] => 0
  | r :: l => r.1 + 1 + zsum l
theorem zsum_snoc (r : Int × Int) : ∀ l, zsum (l ++ [r]) = zsum l + r.1 + 1
  | [] => by simp [zsum]
  | x :: l => by simp only [List.cons_append, zsum]; rw [zsum_snoc r l]; omega
theorem rTo_sum (f : Nat → Int) : ∀ n, zsum (rTo f n).1 + (rTo f n).2 = n
  | 0 => rfl
  | n + 1 => by
    have := rTo_sum f n
    by_cases h : f n = 0
    · rw [rTo_zero h]; simp only; omega
    · rw [rTo_level h]; simp only [zsum_snoc]; omega
theorem zsum_take (l : List (Int × Int)) (k : Nat) (hk : k < l.length) : zsum (l.take (k + 1)) = zsum (l.take k) + (l[k]'hk).1 + 1 := by
  rw [List.take_succ_eq_append_getElem hk, zsum_snoc]
theorem zsum_bd : ∀ l : List (Int × Int), (∀ r ∈ l, 0 ≤ r.1) → ∀ k : Nat, k ≤ l.length → 0 ≤ zsum (l.take k) ∧ zsum (l.take k) ≤ zsum l
  | [], _, k, _ => by simp [zsum]
  | x :: l, h, 0, _ => by
    have := zsum_bd l (fun r hr => h r (List.mem_cons_of_mem _ hr)) 0 (by simp)
    have h0 := h x (List.mem_cons_self ..)
    simp only [List.take_zero, zsum] at *
    omega
  | x :: l, h, k + 1, hk => by
    have := zsum_bd l (fun r hr => h r (List.mem_cons_of_mem _ hr)) k (by simp at hk; omega)
    have h0 := h x (List.mem_cons_self ..)
    simp only [List.take_succ_cons, zsum]
    omega
/-- The number of those of the first n numbers that are not 0. -/
def sumN (t : Nat → Nat) : Nat → Nat
  | 0 => 0
  | n + 1 => sumN t n + t n
def one (x : Int) : Nat := if x = 0 then 0 else 1
def cz (f : Nat → Int) (n : Nat) : Nat := sumN (fun k => one (f k)) n
theorem cz_zero {f : Nat → Int} {n : Nat} (h : f n = 0) : cz f (n + 1) = cz f n := by simp [cz, sumN, one, h]
theorem cz_one {f : Nat → Int} {n : Nat} (h : f n ≠ 0) : cz f (n + 1) = cz f n + 1 := by simp [cz, sumN, one, h]
theorem cz_le (f : Nat → Int) : ∀ n, cz f n ≤ n
  | 0 => Nat.le_refl _
  | n + 1 => by
    have := cz_le f n
    by_cases h : f n = 0
    · rw [cz_zero h]; omega
    · rw [cz_one h]; omega
theorem cz_mono {f g : Nat → Int} : ∀ n, (∀ k, k < n → f k ≠ 0 → g k ≠ 0) → cz f n ≤ cz g n
  | 0, _ => Nat.le_refl _
  | n + 1, h => by
    have := cz_mono n (fun k hk => h k (by omega))
    by_cases hf : f n = 0
    · rw [cz_zero hf]
      by_cases hg : g n = 0
      · rw [cz_zero hg]; omega
      · rw [cz_one hg]; omega
    · rw [cz_one hf, cz_one (h n (by omega) hf)]; omega
theorem cz_null {f : Nat → Int} : ∀ n, cz f n = 0 → ∀ k, k < n → f k = 0
  | 0, _, k, hk => absurd hk (by omega)
  | n + 1, h, k, hk => by
    by_cases hf : f n = 0
    · rw [cz_zero hf] at h
      by_cases e : k = n
      · subst e; exact hf
      · exact cz_null n h k (by omega)
    · rw [cz_one hf] at h; omega
theorem cz_all {f : Nat → Int} : ∀ n, (∀ k, k < n → f k = 0) → cz f n = 0
  | 0, _ => rfl
  | n + 1, h => by rw [cz_zero (h n (by omega))]; exact cz_all n (fun k hk => h k (by omega))
theorem rTo_cz (f : Nat → Int) : ∀ n, (rTo f n).1.length = cz f n
  | 0 => rfl
  | n + 1 => by
    have := rTo_cz f n
    by_cases h : f n = 0
    · rw [rTo_zero h, cz_zero h]; exact this
    · rw [rTo_level h, cz_one h]; simp [this]
/-- A block in scan order; its runs. -/
def scB (b : Nat → Int) (k : Nat) : Int := b (scN k)
def runsB (b : Nat → Int) : List (Int × Int) := (rTo (scB b) 16).1
theorem sumN_scan (t : Nat → Nat) : sumN (fun k => t (scN k)) 16 = sumN t 16 := by
  simp only [sumN, show scN 0 = 0 from rfl, show scN 1 = 1 from rfl, show scN 2 = 4 from rfl, show scN 3 = 8 from rfl, show scN 4 = 5 from rfl, show scN 5 = 2 from rfl, show scN 6 = 3 from rfl, show scN 7 = 6 from rfl, show scN 8 = 9 from rfl, show scN 9 = 12 from rfl, show scN 10 = 13 from rfl, show scN 11 = 10 from rfl, show scN 12 = 7 from rfl, show scN 13 = 11 from rfl, show scN 14 = 14 from rfl, show scN 15 = 15 from rfl]
  omega
theorem cz_scan (b : Nat → Int) : cz (scB b) 16 = cz b 16 := sumN_scan (fun k => one (b k))
theorem runsB_cz (b : Nat → Int) : (runsB b).length = cz b 16 := (rTo_cz _ 16).trans (cz_scan b)
theorem runsB_len (b : Nat → Int) : (runsB b).length ≤ 16 := by rw [runsB_cz]; exact cz_le b 16
theorem scN_lt : ∀ i, i < 16 → scN i < 16 := by decide +kernel
theorem scN_inj : ∀ i, i < 16 → ∀ j, j < 16 → scN i = scN j → i = j := by decide +kernel
def scI (i : Nat) : Nat := [0, 1, 5, 6, 2, 4, 7, 12, 3, 8, 11, 13, 9, 10, 14, 15].getD i 0
theorem scI_lt : ∀ i, i < 16 → scI i < 16 := by decide +kernel
theorem scN_scI : ∀ i, i < 16 → scN (scI i) = i := by decide +kernel
theorem runsB_congr {b c : Nat → Int} (h : ∀ i, i < 16 → b i = c i) : runsB b = runsB c := by
  unfold runsB
  rw [rTo_congr 16 (fun k hk => show scB b k = scB c k from h _ (scN_lt k hk))]
/-- A run is placed behind a levels. -/
def boStep (s : Option (Nat × (Nat → Int))) (r : Int × Int) : Option (Nat × (Nat → Int)) :=
  match s with
  | none => none
  | some (a, b) => if r.2 = 0 ∨ r.1 < 0 ∨ 16 - (a : Int) ≤ r.1 then none else some (a + r.1.toNat + 1, fun i => if i = scN (a + r.1.toNat) then r.2 else b i)
def boTo (l : List (Int × Int)) : Option (Nat × (Nat → Int)) := l.foldl boStep (some (0, fun _ => 0))
theorem boTo_snoc (l : List (Int × Int)) (r : Int × Int) : boTo (l ++ [r]) = boStep (boTo l) r := by simp [boTo]
theorem boStep_none : ∀ l : List (Int × Int), l.foldl boStep none = none
  | [] => rfl
  | _ :: l => by rw [List.foldl_cons]; exact boStep_none l
theorem boTo_app {l : List (Int × Int)} (h : boTo l = none) (m : List (Int × Int)) : boTo (l ++ m) = none := by
  unfold boTo at h ⊢
  rw [List.foldl_append, h, boStep_none]
theorem boTo_take {l : List (Int × Int)} {k : Nat} (hk : k < l.length) : boTo (l.take (k + 1)) = boStep (boTo (l.take k)) (l[k]'hk) := by
  rw [List.take_succ_eq_append_getElem hk, boTo_snoc]
theorem boTo_bad {l : List (Int × Int)} {k : Nat} (hk : k < l.length) {a : Nat} {b : Nat → Int} (h : boTo (l.take k) = some (a, b)) (hb : (l[k]'hk).2 = 0 ∨ (l[k]'hk).1 < 0 ∨ 16 - (a : Int) ≤ (l[k]'hk).1) : boTo l = none := by
  have h1 : boTo (l.take (k + 1)) = none := by rw [boTo_take hk, h]; simp only [boStep, if_pos hb]
  rw [← List.take_append_drop (k + 1) l]
  exact boTo_app h1 _
theorem boTo_good {l : List (Int × Int)} {k : Nat} (hk : k < l.length) {a : Nat} {b : Nat → Int} (h : boTo (l.take k) = some (a, b)) (h1 : (l[k]'hk).2 ≠ 0) (h2 : 0 ≤ (l[k]'hk).1) (h3 : (l[k]'hk).1 < 16 - (a : Int)) :
    boTo (l.take (k + 1)) = some (a + (l[k]'hk).1.toNat + 1, fun i => if i = scN (a + (l[k]'hk).1.toNat) then (l[k]'hk).2 else b i) := by
  rw [boTo_take hk, h]
  simp only [boStep]
  rw [if_neg (by omega)]
theorem boStep_some {s : Option (Nat × (Nat → Int))} {r : Int × Int} {a : Nat} {b : Nat → Int} (h : boStep s r = some (a, b)) :
    ∃ a' b', s = some (a', b') ∧ r.2 ≠ 0 ∧ 0 ≤ r.1 ∧ r.1 < 16 - (a' : Int) ∧ a = a' + r.1.toNat + 1 ∧ b = fun i => if i = scN (a' + r.1.toNat) then r.2 else b' i := by
  match s, h with
  | some (a', b'), h =>
    simp only [boStep] at h
    split at h
    · cases h
    · rename_i hn
      cases h
      exact ⟨a', b', rfl, by omega, by omega, by omega, rfl, rfl⟩
theorem snocRec {α : Type} {P : List α → Prop} (h0 : P []) (h1 : ∀ l r, P l → P (l ++ [r])) (l : List α) : P l := by
  have h : ∀ m : List α, P m.reverse := fun m => by
    induction m with
    | nil => exact h0
    | cons x m ih => rw [List.reverse_cons]; exact h1 _ _ ih
  have := h l.reverse
  rwa [List.reverse_reverse] at this
theorem boTo_end : ∀ (l : List (Int × Int)) (a : Nat) (b : Nat → Int), boTo l = some (a, b) → l.length ≤ a ∧ a ≤ 16 := by
  intro l
  refine snocRec (P := fun l => ∀ (a : Nat) (b : Nat → Int), boTo l = some (a, b) → l.length ≤ a ∧ a ≤ 16) ?_ ?_ l
  · intro a b h; cases h; simp
  · intro l r ih a b h
    rw [boTo_snoc] at h
    obtain ⟨a', b', h1, h2, h3, h4, rfl, _⟩ := boStep_some h
    have := ih a' b' h1
    simp
    omega
/-- BlockOf's answer. -/
def boB (l : List (Int × Int)) : Nat → Int := match boTo l with | some s => s.2 | none => fun _ => 0
def boOk (l : List (Int × Int)) : Bool := (boTo l).isSome
theorem boB_none {l : List (Int × Int)} (h : boTo l = none) : boB l = fun _ => 0 := by unfold boB; rw [h]
theorem boB_some {l : List (Int × Int)} {a : Nat} {b : Nat → Int} (h : boTo l = some (a, b)) : boB l = b := by unfold boB; rw [h]
theorem boOk_none {l : List (Int × Int)} (h : boTo l = none) : boOk l = false := by unfold boOk; rw [h]; rfl
theorem boOk_some {l : List (Int × Int)} {a : Nat} {b : Nat → Int} (h : boTo l = some (a, b)) : boOk l = true := by unfold boOk; rw [h]; rfl
/-- Nothing can stand behind sixteen levels. -/
theorem boTo_full {l : List (Int × Int)} {k : Nat} (hk : k + 1 < l.length) {b : Nat → Int} (h : boTo (l.take (k + 1)) = some (16, b)) : boTo l = none := boTo_bad hk h (by omega)
theorem boTo_long {l : List (Int × Int)} (h : 16 < l.length) : boTo l = none := by
  match e : boTo l with
  | none => rfl
  | some (a, b) => have := boTo_end l a b e; omega
/-- Behind a list that is accepted, the levels from a on are 0, and those before have the runs of the list. -/
theorem boTo_runs : ∀ (l : List (Int × Int)) (a : Nat) (b : Nat → Int), boTo l = some (a, b) → (∀ p, a ≤ p → p < 16 → scB b p = 0) ∧ rTo (scB b) a = (l, 0) := by
  intro l
  refine snocRec (P := fun l => ∀ (a : Nat) (b : Nat → Int), boTo l = some (a, b) → (∀ p, a ≤ p → p < 16 → scB b p = 0) ∧ rTo (scB b) a = (l, 0)) ?_ ?_ l
  · intro a b h; cases h; exact ⟨fun _ _ _ => rfl, rfl⟩
  · intro l r ih a b h
    rw [boTo_snoc] at h
    obtain ⟨a', b', h1, h2, h3, h4, rfl, rfl⟩ := boStep_some h
    obtain ⟨i1, i2⟩ := ih a' b' h1
    have hle := (boTo_end l a' b' h1).2
    obtain ⟨z, hz⟩ := Int.eq_ofNat_of_zero_le h3
    rw [hz] at h4
    have hzn : r.1.toNat = z := by omega
    rw [hzn]
    have hf : ∀ p, p < 16 → p ≠ a' + z → scB (fun i => if i = scN (a' + z) then r.2 else b' i) p = scB b' p := by
      intro p hp hne
      unfold scB
      dsimp only
      rw [if_neg (fun e => hne (scN_inj p hp _ (by omega) e))]
    have hat : scB (fun i => if i = scN (a' + z) then r.2 else b' i) (a' + z) = r.2 := by unfold scB; dsimp only; rw [if_pos rfl]
    refine ⟨fun p hp hp2 => by rw [hf p hp2 (by omega)]; exact i1 p (by omega) hp2, ?_⟩
    have hz0 : ∀ i, i ≤ z → rTo (scB fun i => if i = scN (a' + z) then r.2 else b' i) (a' + i) = (l, i) := by
      intro i
      induction i with
      | zero => intro _; rw [Nat.add_zero, rTo_congr a' (fun k hk => hf k (by omega) (by omega)), i2]
      | succ i ihz =>
        intro hi
        rw [← Nat.add_assoc, rTo_zero (by rw [hf (a' + i) (by omega) (by omega)]; exact i1 _ (by omega) (by omega)), ihz (by omega)]
    rw [rTo_level (by rw [hat]; exact h2), hz0 z (Nat.le_refl _), hat, ← hz]
theorem runs_bo {l : List (Int × Int)} (h : boOk l = true) : runsB (boB l) = l := by
  match e : boTo l with
  | none => rw [boOk_none e] at h; cases h
  | some (a, b) =>
    rw [boB_some e]
    obtain ⟨h1, h2⟩ := boTo_runs l a b e
    have ha := (boTo_end l a b e).2
    have hz : ∀ i, a + i ≤ 16 → rTo (scB b) (a + i) = (l, i) := by
      intro i
      induction i with
      | zero => intro _; exact h2
      | succ i ihz =>
        intro hi
        rw [← Nat.add_assoc, rTo_zero (h1 (a + i) (by omega) (by omega)), ihz (by omega)]
    unfold runsB
    have := hz (16 - a) (by omega)
    rw [show a + (16 - a) = 16 by omega] at this
    rw [this]
/-- BlockOf of RunsOf is the block. -/
theorem bo_runs (b : Nat → Int) : ∀ j, j ≤ 16 → ∃ c, boTo (rTo (scB b) j).1 = some (j - (rTo (scB b) j).2, c) ∧ ∀ p, p < 16 → scB c p = if p < j then scB b p else 0
  | 0, _ => ⟨fun _ => 0, rfl, fun p _ => by simp [scB]⟩
  | j + 1, hj => by
    obtain ⟨c, h1, h2⟩ := bo_runs b j (by omega)
    have hl := rTo_len (scB b) j
    by_cases h : scB b j = 0
    · rw [rTo_zero h]
      refine ⟨c, by simp only; rw [h1]; congr 2; omega, fun p hp => ?_⟩
      rw [h2 p hp]
      by_cases e : p = j
      · subst e; rw [if_neg (by omega), if_pos (by omega), h]
      · by_cases e2 : p < j
        · rw [if_pos e2, if_pos (by omega)]
        · rw [if_neg e2, if_neg (by omega)]
    · rw [rTo_level h]
      simp only
      rw [boTo_snoc, h1]
      simp only [boStep]
      rw [if_neg (by omega)]
      have e : j - (rTo (scB b) j).2 + ((rTo (scB b) j).2 : Int).toNat = j := by omega
      rw [e]
      refine ⟨_, rfl, fun p hp => ?_⟩
      unfold scB
      dsimp only
      by_cases e : p = j
      · subst e; rw [if_pos rfl, if_pos (by omega)]
      · rw [if_neg (fun e' => e (scN_inj p hp j (by omega) e'))]
        have := h2 p hp
        unfold scB at this
        rw [this]
        by_cases e2 : p < j
        · rw [if_pos e2, if_pos (by omega)]
        · rw [if_neg e2, if_neg (by omega)]
theorem boB_runs (b : Nat → Int) : boOk (runsB b) = true ∧ ∀ i, i < 16 → boB (runsB b) i = b i := by
  obtain ⟨c, h1, h2⟩ := bo_runs b 16 (Nat.le_refl _)
  refine ⟨boOk_some h1, fun i hi => ?_⟩
  rw [show boB (runsB b) = c from boB_some h1]
  have := h2 (scI i) (scI_lt i hi)
  rw [if_pos (scI_lt i hi)] at this
  unfold scB at this
  rw [scN_scI i hi] at this
  exact this
/-- With a further run of sixteen zeros a list is rejected. -/
theorem bo_more (l : List (Int × Int)) (r : Int × Int) (hr : r.1 = 16) : boOk (l ++ [r]) = false := by
  apply boOk_none
  rw [boTo_snoc]
  match boTo l with
  | none => rfl
  | some (a, b) => simp only [boStep]; rw [if_pos (by omega)]
end Go.Proofs.Ytogmlcmajecpgaa
