/- The reader of the drawing functions: what its methods keep and return. -/
import Derived.Test.YtogmlcmajecpgaaMem
import Derived.BigRegion
namespace Go.Proofs.Ytogmlcmajecpgaa
open Go.RowKit

/-- v is a slice of n bytes, in a block below B. -/
def SlB (B : Nat) (w : World) (v : Value) (n : Nat) (b : Nat → Int) : Prop :=
  ((∃ a cap, v = .slice a 0 cap) ∧ n = 0) ∨ ∃ g off cap, v = .slice (some ⟨g, off, none⟩) n cap ∧ (0 < n → g < B) ∧ n ≤ cap ∧ ∀ i, i < n → (0 ≤ b i ∧ b i ≤ 255) ∧ w.cell? ⟨g, off + i, none⟩ = some (.int .u8 (b i))
theorem SlB.kept {B : Nat} {w w' : World} {v : Value} {n : Nat} {b : Nat → Int} (h : SlB B w v n b) (hk : ∀ g, g < B → w'.heap[g]? = w.heap[g]?) : SlB B w' v n b := by
  rcases h with h | ⟨g, off, cap, hv, hg, hn, hc⟩
  · exact Or.inl h
  · exact Or.inr ⟨g, off, cap, hv, hg, hn, fun i hi => ⟨(hc i hi).1, (World.cell?_of_block (w := w) (hk g (hg (by omega)))).trans (hc i hi).2⟩⟩

/-- The k-th number of a list that is written out in the text. -/
def pickL (l : List Int) (k : Nat) : Int := l.getD k 0
theorem pickL_bd {l : List Int} {lo hi : Int} (h : ∀ x ∈ l, lo ≤ x ∧ x ≤ hi) (k : Nat) (hk : k < l.length) : lo ≤ pickL l k ∧ pickL l k ≤ hi := by
  unfold pickL
  rw [List.getD_eq_getElem?_getD, List.getElem?_eq_getElem hk]
  exact h _ (List.getElem_mem hk)
theorem lit_cell (l : List Int) {w : World} {g : Nat} {t : TypeId} {fr : Nat × Nat} (h : w.heap[g]? = some (.cells (l.map (Value.int .i64)).toArray t fr)) (k : Nat) (hk : k < l.length) : w.cell? ⟨g, k, none⟩ = some (.int .i64 (pickL l k)) := by
  rw [cell_of_row w g k _ _ _ h]
  simp [pickL, hk]
/-- A whole number in a range is returned; nothing old has turned. -/
def Drawn (lo hi : Int) (w : World) (e : Ending) (w' : World) : Prop := ∃ k : Int, e = .returned (.int .i64 k) ∧ lo ≤ k ∧ k ≤ hi ∧ Below w.heap.size w w'

/-- Block R is a reader over bytes that lie below B; it has been asked at most m times. -/
def Rd (B : Nat) (w : World) (R m : Nat) : Prop :=
  ∃ (v : Value) (n : Nat) (b : Nat → Int) (p : Nat), w.heap[R]? = some (.cells #[v, .int .i64 p] 69 (0, 0)) ∧ SlB B w v n b ∧ n ≤ 2000 ∧ p ≤ m ∧ B ≤ R
theorem Rd.lt {B : Nat} {w : World} {R m : Nat} (h : Rd B w R m) : R < w.heap.size := by
  obtain ⟨_, _, _, _, h, _⟩ := h
  exact (Array.getElem?_eq_some_iff.1 h).1
theorem Rd.le {B : Nat} {w : World} {R m : Nat} (h : Rd B w R m) : B ≤ R := by
  obtain ⟨_, _, _, _, _, _, _, _, h⟩ := h
  exact h
theorem Rd.mono {B : Nat} {w : World} {R m m' : Nat} (h : Rd B w R m) (hm : m ≤ m') : Rd B w R m' := by
  obtain ⟨v, n, b, p, h1, h2, h3, h4, h5⟩ := h
  exact ⟨v, n, b, p, h1, h2, h3, by omega, h5⟩
theorem Rd.kept {B : Nat} {w w' : World} {R m : Nat} (h : Rd B w R m) (hk : ∀ g, g ≤ R → w'.heap[g]? = w.heap[g]?) : Rd B w' R m := by
  obtain ⟨v, n, b, p, h1, h2, h3, h4, h5⟩ := h
  exact ⟨v, n, b, p, (hk R (Nat.le_refl _)).trans h1, h2.kept (fun g hg => hk g (by omega)), h3, h4, h5⟩
theorem Rd.below {B C : Nat} {w w' : World} {R m : Nat} (h : Rd B w R m) (hb : Below C w w') (hC : R < C) : Rd B w' R m := h.kept fun g hg => hb.block g (by omega)
theorem Rd.alloc {B : Nat} {w : World} {R m : Nat} (h : Rd B w R m) (o : Obj) : Rd B (w.alloc o) R m := by
  have := h.lt
  exact h.kept fun g hg => Below.heap_alloc w o g (by omega)

theorem xor_i64_nat (a b : Nat) (ha : a < 4611686018427387904) (hb : b < 4611686018427387904) : bits .xor .i64 (a : Int) (b : Int) = ((a ^^^ b : Nat) : Int) := by
  have hx : a ^^^ b < 2 ^ 62 := Nat.xor_lt_two_pow (by omega) (by omega)
  have h1 : (BitVec.ofInt 64 (a : Int)).toNat = a := by
    rw [BitVec.ofInt_natCast, BitVec.toNat_ofNat]; exact Nat.mod_eq_of_lt (by omega)
  have h2 : (BitVec.ofInt 64 (b : Int)).toNat = b := by
    rw [BitVec.ofInt_natCast, BitVec.toNat_ofNat]; exact Nat.mod_eq_of_lt (by omega)
  show IntKind.i64.wrap ((BitVec.ofInt 64 (a : Int) ^^^ BitVec.ofInt 64 (b : Int)).toNat : Int) = _
  rw [BitVec.toNat_xor, h1, h2, IntKind.wrap_i64]
  omega
theorem xor_i64 (x y : Int) (hx : 0 ≤ x) (hx2 : x ≤ 1000000000000) (hy : 0 ≤ y) (hy2 : y ≤ 1000000000000) : 0 ≤ bits .xor .i64 x y ∧ bits .xor .i64 x y ≤ 4611686018427387904 := by
  obtain ⟨a, rfl⟩ := Int.eq_ofNat_of_zero_le hx
  obtain ⟨b, rfl⟩ := Int.eq_ofNat_of_zero_le hy
  rw [xor_i64_nat a b (by omega) (by omega)]
  have hx : a ^^^ b < 2 ^ 62 := Nat.xor_lt_two_pow (by omega) (by omega)
  omega

/-- What pick leaves: a number below n (0 if n is less than 1); the reader has been asked once more; nothing else has turned. -/
def Picked (B R m : Nat) (n : Int) (w : World) (e : Ending) (w' : World) : Prop :=
  ∃ k : Int, e = .returned (.int .i64 k) ∧ 0 ≤ k ∧ (k < n ∨ k = 0) ∧ Rd B w' R (m + 1) ∧ Only R w w'
theorem Rd.asked {B R m p n : Nat} {w w' : World} {v : Value} {b : Nat → Int} (h1 : w.heap[R]? = some (.cells #[v, .int .i64 p] 69 (0, 0))) (h2 : SlB B w v n b) (h3 : n ≤ 2000) (h4 : p ≤ m) (h5 : B ≤ R)
    (ho : Only R (w.setCell ⟨R, 1, none⟩ (.int .i64 ((p : Int) + 1))) w') (hs : w'.heap[R]? = (w.setCell ⟨R, 1, none⟩ (.int .i64 ((p : Int) + 1))).heap[R]?) : Rd B w' R (m + 1) ∧ Only R w w' := by
  have hO := ((Only.refl R w).setCell 1 (.int .i64 ((p : Int) + 1))).trans ho
  refine ⟨⟨v, n, b, p + 1, ?_, h2.kept (fun g hg => hO.block g (by omega)), h3, by omega, h5⟩, hO⟩
  rw [hs, heap_setCell_same w R 1 _ _ _ h1]
  rfl
theorem pick_any (B R m : Nat) (n : Int) (w : World) (h : Rd B w R m) (hm : m ≤ 1000000) (hn : n ≤ 1000000) :
    Calls Try.prog 41 #[.pointer (some ⟨R, 0, none⟩), .int .i64 n] w (Picked B R m n w) := by
  obtain ⟨v, l, b, p, h1, h2, h3, h4, h5⟩ := h
  have c0 : w.cell? ⟨R, 0, none⟩ = some v := by rw [cell_of_row w R 0 _ _ _ h1]; rfl
  have c1 : w.cell? ⟨R, 1, none⟩ = some (.int .i64 p) := by rw [cell_of_row w R 1 _ _ _ h1]; rfl
  have f1 := frozen_of_row w R 1 _ _ h1
  have HA := Lib.hid (fun (w' : World) ho hs => Rd.asked (m := m) (w' := w') h1 h2 h3 h4 h5 ho hs)
  clear h1
  by_cases hn1 : n < 1
  · clear h2
    go_enter Try.func41, Try.ntmps41
    go_wp2
    go_ret
    have := HA.out _ (Only.refl _ _) rfl
    exact ⟨0, rfl, by omega, by omega, this⟩
  · have hn0 : 1 ≤ n := by omega
    clear hn1
    by_cases hl : l = 0
    · have hv : ∃ a cap, v = .slice a 0 cap := by
        rcases h2 with ⟨h, _⟩ | ⟨g, off, cap, rfl, _⟩
        · exact h
        · exact ⟨_, _, by rw [hl]⟩
      obtain ⟨a, cap, rfl⟩ := hv
      clear h2 hl
      go_enter Try.func41, Try.ntmps41
      go_wp2
      go_ret
      have := HA.out _ (Only.refl _ _) rfl
      exact ⟨0, rfl, by omega, by omega, this⟩
    · rcases h2 with ⟨_, h0⟩ | ⟨g, off, cap, rfl, hg, hcap, hc⟩
      · exact absurd h0 hl
      · have hl0 : ((l : Int) == 0) = false := by simp; omega
        have hl1 : 1 ≤ l := by omega
        clear hl
        have hgR : g < R := by have := hg (by omega); omega
        clear hg
        by_cases hp : p < l
        · have c2 := (hc p hp).2
          have hb := (hc p hp).1
          clear hc
          generalize b p = x at *
          go_enter Try.func41, Try.ntmps41
          go_wp2
          go_ret
          have := HA.out _ (Only.refl _ _) rfl
          exact ⟨x % n, rfl, Int.emod_nonneg _ (by omega), Or.inl (Int.emod_lt_of_pos _ (by omega)), this⟩
        · have k1 : p % l < l := Nat.mod_lt _ (by omega)
          have k2 : (p * 7 + 3) % l < l := Nat.mod_lt _ (by omega)
          have c2 := (hc (p % l) k1).2
          have c3 := (hc ((p * 7 + 3) % l) k2).2
          have hb := (hc (p % l) k1).1
          have hd := (hc ((p * 7 + 3) % l) k2).1
          clear hc
          generalize b (p % l) = x at *
          generalize b ((p * 7 + 3) % l) = y at *
          have q1 : p / l ≤ p := Nat.div_le_self _ _
          go_enter Try.func41, Try.ntmps41
          go_wp2
          have m1 : (p : Int).tmod l = (p : Int) % l := Int.tmod_eq_emod_of_nonneg (by omega)
          have m2 : ((p : Int) * 7 + 3).tmod l = ((p : Int) * 7 + 3) % l := Int.tmod_eq_emod_of_nonneg (by omega)
          have t1 : ((p : Int) % l).toNat = p % l := by rw [← Int.natCast_emod, Int.toNat_natCast]
          have t2 : (((p : Int) * 7 + 3) % l).toNat = (p * 7 + 3) % l := by rw [show ((p : Int) * 7 + 3) = ((p * 7 + 3 : Nat) : Int) by omega, ← Int.natCast_emod, Int.toNat_natCast]
          have i1 : 0 ≤ (p : Int) % l := Int.emod_nonneg _ (by omega)
          have i2 : (p : Int) % l < l := Int.emod_lt_of_pos _ (by omega)
          have i3 : 0 ≤ ((p : Int) * 7 + 3) % l := Int.emod_nonneg _ (by omega)
          have i4 : ((p : Int) * 7 + 3) % l < l := Int.emod_lt_of_pos _ (by omega)
          have q2 : 0 ≤ (p : Int) / l ∧ (p : Int) / l ≤ p := IntWalk.tdiv_le _ _ (by omega) (by omega)
          have d1 : IntKind.i64.wrap ((p : Int).tdiv l) = (p : Int) / l := IntWalk.i64_quo _ _ (by omega)
          have e1 : IntKind.i64.wrap x = x := IntWalk.i64_in _ (by omega)
          have e2 : IntKind.i64.wrap y = y := IntWalk.i64_in _ (by omega)
          have e3 : IntKind.i64.wrap (x * 131) = x * 131 := IntWalk.i64_in _ (by omega)
          have e4 : IntKind.i64.wrap (y * 1117) = y * 1117 := IntWalk.i64_in _ (by omega)
          have e5 : IntKind.i64.wrap ((p : Int) * 7) = (p : Int) * 7 := IntWalk.i64_in _ (by omega)
          have e6 : IntKind.i64.wrap ((p : Int) * 7 + 3) = (p : Int) * 7 + 3 := IntWalk.i64_in _ (by omega)
          have e7 : IntKind.i64.wrap (x * 131 + y * 1117) = x * 131 + y * 1117 := IntWalk.i64_in _ (by omega)
          have e8 : IntKind.i64.wrap ((p : Int) * 29) = (p : Int) * 29 := IntWalk.i64_in _ (by omega)
          have e9 : IntKind.i64.wrap (x * 131 + y * 1117 + (p : Int) * 29) = x * 131 + y * 1117 + (p : Int) * 29 := IntWalk.i64_in _ (by omega)
          have e10 : IntKind.i64.wrap ((p : Int) / l * 53) = (p : Int) / l * 53 := IntWalk.i64_in _ (by omega)
          have e11 : IntKind.i64.wrap (x * 131 + y * 1117 + (p : Int) * 29 + (p : Int) / l * 53) = x * 131 + y * 1117 + (p : Int) * 29 + (p : Int) / l * 53 := IntWalk.i64_in _ (by omega)
          have lz : ((l : Int) == 0) = false := hl0
          have lz2 : ¬ (l : Int) = 0 := by omega
          have lz3 : ¬ l = 0 := by omega
          have HX := Lib.hid (show 0 ≤ x * 131 + y * 1117 + (p : Int) * 29 + (p : Int) / l * 53 ∧ x * 131 + y * 1117 + (p : Int) * 29 + (p : Int) / l * 53 ≤ 1000000000 by omega)
          go_quiet (fail)
          generalize x * 131 + y * 1117 + (p : Int) * 29 + (p : Int) / l * 53 = z at *
          clear m1 m2 t1 t2 i1 i2 i3 i4 q2 d1 e1 e2 e3 e4 e5 e6 e7 e8 e9 e10 e11 lz lz2 lz3 c2 c3
          have hz := HX.out
          have hx := xor_i64 z (z / 64) (by omega) (by omega) (by omega) (by omega)
          go_wp2
          go_ret
          have := HA.out _ ((Only.refl _ _).drewN nq) rfl
          exact ⟨bits .xor .i64 z (z / 64) % n, rfl, Int.emod_nonneg _ (by omega), Or.inl (Int.emod_lt_of_pos _ (by omega)), this⟩
/-- What odd leaves. -/
def Odded (B R m : Nat) (w : World) (e : Ending) (w' : World) : Prop :=
  ∃ k : Bool, e = .returned (.bool k) ∧ Rd B w' R (m + 1) ∧ Only R w w'
theorem odd_any (B R m : Nat) (n : Int) (w : World) (h : Rd B w R m) (hm : m ≤ 1000000) (hn : n ≤ 1000000) (hn0 : 1 ≤ n) :
    Calls Try.prog 42 #[.pointer (some ⟨R, 0, none⟩), .int .i64 n] w (Odded B R m w) := by
  have H := Lib.hid h; clear h
  go_enter Try.func42, Try.ntmps42
  go_wp2_with fail
  refine (pick_any B R m n _ H.out hm hn).mono ?_; rintro e w1 ⟨k, rfl, hk0, hk1, hr, ho⟩
  go_wp2_with fail
  go_ret
  exact ⟨_, rfl, hr, ho⟩

theorem odd_zero (B R m : Nat) (w : World) (h : Rd B w R m) :
    Calls Try.prog 42 #[.pointer (some ⟨R, 0, none⟩), .int .i64 0] w (Odded B R m w) := by
  have H := Lib.hid (show Odded B R m w (.returned (.bool false)) w from ⟨false, rfl, h.mono (by omega), Only.refl _ _⟩); clear h
  go_enter Try.func42, Try.ntmps42
  go_wp2_with fail
  go_ret
  exact H.out

/-- What l20Open leaves: a new reader, in a new block. -/
def Opened (w : World) (e : Ending) (w' : World) : Prop :=
  e = .returned (.pointer (some ⟨w.heap.size, 0, none⟩)) ∧ Rd w.heap.size w' w.heap.size 0 ∧ Below w.heap.size w w' ∧ w'.heap.size = w.heap.size + 1
theorem l20Open_any (v : Value) (n : Nat) (b : Nat → Int) (w : World) (h : SlB w.heap.size w v n b) (hn : n ≤ 1000000000000) :
    Calls Try.prog 40 #[v] w (Opened w) := by
  have fin : ∀ (v' : Value) (n' : Nat), SlB w.heap.size w v' n' b → n' ≤ 2000 → Opened w (.returned (.pointer (some ⟨w.heap.size, 0, none⟩))) (w.alloc (.cells #[v', .int .i64 0] 69)) := by
    intro v' n' h' hn'
    refine ⟨rfl, ⟨v', n', b, 0, heap_alloc_new w _, h'.kept (fun g hg => Below.heap_alloc w _ g hg), hn', Nat.le_refl _, Nat.le_refl _⟩, (Below.refl _ _).alloc (Nat.le_refl _) _, by simp⟩
  rcases h with ⟨⟨a, cap, rfl⟩, rfl⟩ | ⟨g, off, cap, rfl, hg, hcap, hc⟩
  · have HF := Lib.hid (fin (.slice a 0 cap) 0 (Or.inl ⟨⟨a, cap, rfl⟩, rfl⟩) (by omega)); clear fin
    go_enter Try.func40, Try.ntmps40
    go_wp2
    go_ret
    exact HF.out
  · by_cases hl : n ≤ 2000
    · have HF := Lib.hid (fin (.slice (some ⟨g, off, none⟩) n cap) n (Or.inr ⟨g, off, cap, rfl, hg, hcap, hc⟩) hl); clear fin hc
      go_enter Try.func40, Try.ntmps40
      go_wp2
      go_ret
      exact HF.out
    · have HF := Lib.hid (fin (.slice (some ⟨g, off, none⟩) 2000 cap) 2000 (Or.inr ⟨g, off, cap, rfl, fun _ => hg (by omega), by omega, fun i hi => hc i (by omega)⟩) (by omega)); clear fin hc
      go_enter Try.func40, Try.ntmps40
      go_wp2
      go_ret
      exact HF.out

end Go.Proofs.Ytogmlcmajecpgaa
