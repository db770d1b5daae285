/- slices.Collect over the iterator of a block's runs; RunsOf of the program. -/
import Derived.Test.YtogmlcmajecpgaaRuns2
namespace Go.Proofs.Ytogmlcmajecpgaa
open Go.RowKit Go.Shelf
attribute [local go_sem] Oper.semAt_some

/-- The cells of runs. -/
def VR (l : List (Int × Int)) : List Value := l.flatMap fun x => [.int .i64 x.1, .int .i64 x.2]
theorem VR_snoc (l : List (Int × Int)) (x : Int × Int) : VR (l ++ [x]) = VR l ++ [.int .i64 x.1, .int .i64 x.2] := by simp [VR]
theorem VR_get : ∀ (l : List (Int × Int)) (i : Nat), i < l.length → (VR l)[i * 2]? = some (.int .i64 (zr l i)) ∧ (VR l)[i * 2 + 1]? = some (.int .i64 (lv l i))
  | [], i, h => absurd h (by simp)
  | x :: l, 0, _ => by constructor <;> rfl
  | x :: l, i + 1, h => by
    have ih := VR_get l i (by simpa using h)
    have e : VR (x :: l) = .int .i64 x.1 :: .int .i64 x.2 :: VR l := rfl
    rw [e, show (i + 1) * 2 = i * 2 + 1 + 1 by omega]
    exact ih
/-- What the runs own reads as the runs. -/
theorem SrR.own {w : World} {base : Nat} {e : TypeId} {v : Value} {l : List (Int × Int)} (h : w.ownsRow base e 2 v l.length (VR l)) : SrR w.heap.size w v l := by
  have h2 := h
  rcases h.2 with ⟨rfl, h0⟩ | ⟨g, cap, cur, rfl, hg, hh, hn, hm, hs, ht⟩
  · exact ⟨none, 0, by rw [h0], by omega, fun h => absurd h (by omega)⟩
  · refine ⟨_, _, rfl, hn, fun _ => ⟨g, 0, rfl, (Array.getElem?_eq_some_iff.1 hh).1, fun i hi => ?_⟩⟩
    obtain ⟨g1, g2⟩ := VR_get l i hi
    have c1 := World.ownsRow.cells h2 (g := g) rfl (i * 2) _ g1
    have c2 := World.ownsRow.cells h2 (g := g) rfl (i * 2 + 1) _ g2
    rw [show (⟨g, 0, none⟩ : Addr).add (i * 2) = ⟨g, 0 + i * 2, none⟩ from Addr.add_mid _ _ _] at c1
    rw [show (⟨g, 0, none⟩ : Addr).add (i * 2 + 1) = ⟨g, 0 + i * 2 + 1, none⟩ from by rw [Addr.add_mid, ← Nat.add_assoc]] at c2
    exact ⟨c1, c2⟩
theorem cell_two_new (w : World) (x y : Value) (t : TypeId) : ∀ j u, [x, y][j]? = some u → (w.alloc (.cells #[x, y] t)).cell? ((⟨w.heap.size, 0, none⟩ : Addr).add j) = some u := by
  intro j u hj
  match j, hj with
  | 0, hj => simp at hj; subst hj; simp [Addr.add]
  | 1, hj => simp at hj; subst hj; simp [Addr.add]
set_option maxRecDepth 100000 in
set_option maxHeartbeats 2000000 in
theorem appendSeq_any (b : Nat → Int) (Bl : Nat) (w : World) (hBl : Blk w Bl 16 29 b) :
    Calls Try.prog 45 #[.slice none 0 0, .func (.func 44) #[] #[.pointer (some ⟨Bl, 0, none⟩)]] w fun e w' => ∃ v, e = .returned v ∧ w'.ownsRow w.heap.size 48 2 v (runsB b).length (VR (runsB b)) ∧ Below w.heap.size w w' := by
  obtain ⟨i0, hi, hz0, hz1, hz2⟩ := info_parts infoRun
  have hBlt := hBl.lt
  refine (callsIn_wide (n := 3)).1 ?_
  refine callsIn_of_wp_marks Try.func45 rfl trivial ?_ rfl
  simp only [Try.ntmps45, List.size_toArray, List.length_cons, List.length_nil, Nat.reduceAdd, Nat.reduceSub, Array.replicate_succ, Array.replicate_zero, List.push_toArray, List.append_toArray, List.nil_append, List.cons_append]
  gi_wp2_with fail
  have bO := Boxed.new w 39 (.slice none 0 0)
  have hB0 : Below w.heap.size w (w.alloc (.cells #[.slice none 0 0] 39)) := (Below.refl _ w).alloc (Nat.le_refl _) _
  have hI : Blk (w.alloc (.cells #[.slice none 0 0] 39)) Bl 16 29 b := hBl.alloc _
  have hlen16 := runsB_len b
  have hsz : (w.alloc (.cells #[.slice none 0 0] 39)).heap.size = w.heap.size + 1 := by simp
  generalize w.alloc (.cells #[.slice none 0 0] 39) = W0 at *
  refine wpIn_rangeFunc_ownH rfl (by omega) (gf := 44) (lb := #[.pointer (some ⟨Bl, 0, none⟩)]) rfl trivial (enters_of Try.func44 (by kernel_rfl) rfl)
    (iter_stops (3 - 1) (by omega) Bl b _ hI) (fun h k => k.trans h) (fun W l o o' hl _ _ _ => World.putObj_heap_other (by omega)) (Below.refl _ _) (fun _ => rfl)
    (fun pre W => (∃ v, Boxed W w.heap.size 39 v ∧ W.ownsRow w.heap.size 48 2 v pre.length (VR pre) ∧ True) ∧ Below w.heap.size w W)
    (fun _ _ _ => False)
    (OwnFrom.and (Own.from (holdsRow_own w.heap.size w.heap.size 39 48 2 (fun pre : List (Int × Int) => pre.length) VR (fun _ _ => True)) _) (ownFrom_below (Nat.le_refl _) (by omega)))
    (fun _ _ _ _ _ hs _ _ => hs)
    ⟨⟨_, bO, World.ownsRow_nil _ _ _ _, trivial⟩, hB0⟩
    (fun x a' W => ∃ vB, a' = { tmps := #[.slice none 0 0, .func (.func 44) #[] #[.pointer (some ⟨Bl, 0, none⟩)], .pointer (some ⟨w.heap.size, 0, none⟩), undef, .slice none 0 0, .pointer (some ⟨vB, 0, none⟩), .func (.func 44) #[] #[.pointer (some ⟨Bl, 0, none⟩)], runV x, undef, undef, undef, undef, undef], defers := [] } ∧ RunB W vB 48 x.1 x.2) ?hax ?assign ?body ?done ?stop
  case hax =>
    rintro x a' _ W W' row ⟨vB, ha, hb⟩ hg hrow
    refine ⟨vB, ha, (hg.block vB (Array.getElem?_eq_some_iff.1 hb).1 (fun e => ?_)).trans hb⟩
    obtain ⟨_, o, ho, hc⟩ := hrow vB e.symm
    rw [show W.heap[vB]? = _ from hb] at ho
    cases ho
    cases hc
  case assign =>
    rintro l pre x W K ⟨⟨v, hv, hrow, _⟩, hB⟩ hK
    obtain ⟨x, y⟩ := x
    have hK' := hK _ (W.alloc (.cells #[.int .i64 x, .int .i64 y] 48)) ((KeepsOthers.alloc W _).from _) (Below.heap_alloc W _ Bl (by have := hB.size; omega)) ⟨⟨v, hv.alloc _, hrow.alloc _, trivial⟩, hB.alloc hB.size _⟩ ⟨W.heap.size, rfl, RunB.new' rfl⟩
    clear hK
    unfold runV at hK' ⊢
    dsimp only at hK' ⊢
    gi_wp2
    simpa using hK'
  case body =>
    rintro l pre x a' W hl _ ⟨⟨v, hv, hrow, _⟩, hB⟩ ⟨vB, rfl, hvB⟩ hlt
    obtain ⟨x, y⟩ := x
    unfold runV
    dsimp only at hvB ⊢
    have hc := hv.cell
    have e0 : W.cell? ⟨vB, 0, none⟩ = some (.int .i64 x) := by rw [cell_of_row _ _ 0 _ _ _ hvB]; rfl
    have e1 : W.cell? ⟨vB, 1, none⟩ = some (.int .i64 y) := by rw [cell_of_row _ _ 1 _ _ _ hvB]; rfl
    gi_wp2_with (gi_at_builtin; refine wpListIn_append_own _ rfl _ _ 39 rfl w.heap.size 48 i0 (.agg #[.int .i64 0, .int .i64 0]) 2 16 Try.underlying39 hi hz0 hz1 hz2 rfl (by decide) _ _ _ rfl (hrow.alloc _) ⟨W.heap.size, 0, none⟩ 1 1 [.int .i64 x, .int .i64 y] rfl rfl (cell_two_new _ _ _ _) (by simp [Value.oneCell']) (by unfold maxLen; omega) (by omega) (by have := hB.size; simp; omega) ?_; intro v' w1 hown' hgrow _; obtain ⟨g', cap', rfl⟩ := ownsRow_succ hown'; obtain ⟨hv1, hv2, hr2, hk2, hb2⟩ := hv.appended (by decide) hrow hB.size (Nat.le_refl _) hown' hgrow; have hc1 := hv1.cell; have hf1 := hv1.frozen)
    exact ⟨hk2.from _, hb2.block Bl hBlt, ⟨_, hv2, by rw [VR_snoc]; simpa using hr2, trivial⟩, hB.trans hb2⟩
  case done =>
    rintro D ys W hD rfl ⟨⟨v, hv, hrow, hnil⟩, hB⟩ hK
    have hc := hv.cell
    gi_wp2
    refine ⟨by simp, .inl ⟨_, _, rfl, run_takeDeferred hK, ?_⟩⟩
    exact ⟨_, results_tmp rfl _ _ _, v, rfl, ownsRow_putObj hrow _ hK rfl, hB.trans (belowK_b (w := w) (Nat.le_refl _) W D _ _ (by omega) hK rfl rfl)⟩
  case stop =>
    rintro D c pre W _ _ h _
    exact h.elim
end Go.Proofs.Ytogmlcmajecpgaa
