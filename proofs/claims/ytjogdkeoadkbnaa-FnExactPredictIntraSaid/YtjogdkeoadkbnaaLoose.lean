/- A region that draws its order, walked once: each operation is shown in every world of a class S and hands back a value of a stated kind; what is stated of a value stays true along R. Whatever order is picked, at the end every value is of its kind. -/
import Derived.StillTail
import Derived.Deep.RegionHeld
import Derived.Test.YtjogdkeoadkbnaaScalar
namespace Go.Proofs.Ytjogdkeoadkbnaa
open Go

def depsOf (ops : Array Oper) (i : Nat) : List Nat := match ops[i]? with
  | some o => (o.after.toList.filter (Region.binds .any)).map (·.on)
  | none => []
def dstOf (ops : Array Oper) (i : Nat) : Option Tmp := (ops[i]?).bind (·.dst)
def putsOn (ops : Array Oper) (vs : Nat → Value) : List Nat → Act → Act
  | [], a => a
  | j :: l, a => putsOn ops vs l (a.put (dstOf ops j) (vs j))
/-- All that is waited for, directly or not (edges go back). -/
def cloFrom (ops : Array Oper) : Nat → List Nat → List Nat
  | 0, s => s
  | k + 1, s => cloFrom ops k (if s.contains k then depsOf ops k ++ s else s)
theorem cloFrom_in {ops : Array Oper} {p : Nat → Prop} (hp : ∀ k, p k → ∀ d ∈ depsOf ops k, p d) : ∀ (k : Nat) (s : List Nat), (∀ j ∈ s, p j) → ∀ j ∈ cloFrom ops k s, p j
  | 0, _, h => h
  | k + 1, s, h => by
    refine cloFrom_in hp k _ ?_
    by_cases hk : s.contains k = true
    · rw [if_pos hk]
      intro j hj
      rcases List.mem_append.1 hj with e | e
      · exact hp k (h k (by simpa using hk)) j e
      · exact h j e
    · rw [if_neg hk]; exact h
def looseUpon (P : Program) (K : Value → World → Prop) : Result Next → Prop
  | .ok (.value v) w' => K v w'
  | .ok .skip w' => K undef w'
  | .ok (.enter f args) w' => Calls P f args w' (fun e w'' => ∃ v, e = .returned v ∧ K v w'')
  | .ok (.row row args) w' => Rows P row args w' (fun v w'' => K v w'')
  | _ => False
/-- What is asked of a region of which the first m operations may come up in any order and the rest in its own: no guards, no select, dsts apart and in the frame, edges go back, what is looked at is waited for; the rest waits for all of them. -/
def looseB (ops : Array Oper) (m n : Nat) : Bool :=
  Region.noSelect ops && decide (m ≤ ops.size) && Region.seqB .any ops (ops.size - m) m (Array.replicate m true ++ Array.replicate (ops.size - m) false) && ((List.range m).all fun i =>
    (match ops[i]? with | some o => o.guard.isNone && o.op.operands.toList.all (fun | .tmp t => (List.range m).all fun j => dstOf ops j != some t || (depsOf ops i).contains j | _ => true) | none => true)
    && (match dstOf ops i with | some d => decide (d < n) && (List.range m).all (fun j => j == i || dstOf ops j != some d) | none => true)
    && (depsOf ops i).all (fun j => decide (j < i)))
  && (List.range ops.size).all (fun i => decide (i < m) || (List.range m).all fun j => (cloFrom ops i (depsOf ops i)).contains j)
section
variable {P : Program} {ops : Array Oper} {Q : Exit → Act → World → Prop} {S : Nat → World → Prop} {R : World → World → Prop} {V : Nat → World → Value → Prop} {a0 : Act}

theorem putsOn_size (vs : Nat → Value) : ∀ (l : List Nat) (a : Act), (putsOn ops vs l a).tmps.size = a.tmps.size
  | [], _ => rfl
  | j :: l, a => by
    show (putsOn ops vs l (a.put (dstOf ops j) (vs j))).tmps.size = _
    rw [putsOn_size vs l]
    cases dstOf ops j <;> simp [Act.put]
theorem putsOn_defers (vs : Nat → Value) : ∀ (l : List Nat) (a : Act), (putsOn ops vs l a).defers = a.defers
  | [], _ => rfl
  | j :: l, a => by
    show (putsOn ops vs l (a.put (dstOf ops j) (vs j))).defers = _
    rw [putsOn_defers vs l]
    cases dstOf ops j <;> rfl
theorem putsOn_off (vs : Nat → Value) (t : Tmp) : ∀ (l : List Nat) (a : Act), (∀ j ∈ l, dstOf ops j ≠ some t) → (putsOn ops vs l a).tmps[t]? = a.tmps[t]?
  | [], _, _ => rfl
  | j :: l, a, h => by
    show (putsOn ops vs l (a.put (dstOf ops j) (vs j))).tmps[t]? = _
    rw [putsOn_off vs t l _ (fun j hj => h j (List.mem_cons_of_mem _ hj))]
    have h0 := h j (List.mem_cons_self ..)
    cases hd : dstOf ops j with
    | none => rfl
    | some d =>
      simp only [Act.put]
      rw [Array.getElem?_setIfInBounds_ne (fun e => h0 (by rw [hd, e]))]
theorem putsOn_on (vs : Nat → Value) (t : Tmp) (i : Nat) (hi : dstOf ops i = some t) : ∀ (l : List Nat) (a : Act), t < a.tmps.size → i ∈ l → (∀ j ∈ l, j ≠ i → dstOf ops j ≠ some t) → (putsOn ops vs l a).tmps[t]? = some (vs i)
  | [], _, _, h, _ => by cases h
  | j :: l, a, hs, hm, h => by
    show (putsOn ops vs l (a.put (dstOf ops j) (vs j))).tmps[t]? = _
    have hs' : t < (a.put (dstOf ops j) (vs j)).tmps.size := by cases dstOf ops j <;> simp [Act.put, hs]
    by_cases hl : i ∈ l
    · exact putsOn_on vs t i hi l _ hs' hl (fun j hj => h j (List.mem_cons_of_mem _ hj))
    · have e : j = i := by
        rcases List.mem_cons.1 hm with e | e
        · exact e.symm
        · exact absurd e hl
      subst e
      rw [putsOn_off vs t l _ (fun k hk hd => h k (List.mem_cons_of_mem _ hk) (fun e => hl (e ▸ hk)) hd), hi]
      simp [Act.put, hs]

/-- How things stand when the operations in 'listed' have come up. -/
structure LooseI (ops : Array Oper) (m : Nat) (S : World → Prop) (V : Nat → World → Value → Prop) (a0 : Act) (listed : Array Bool) (a : Act) (w : World) (vs : Nat → Value) : Prop where
  size : listed.size = ops.size
  inS : S w
  kind : ∀ j, j < m → listed.getD j false = true → V j w (vs j)
  frame : a.tmps.size = a0.tmps.size
  defers : a.defers = a0.defers
  off : ∀ t, (∀ j, j < m → dstOf ops j ≠ some t) → a.tmps[t]? = a0.tmps[t]?
  on : ∀ j t, j < m → listed.getD j false = true → dstOf ops j = some t → a.tmps[t]? = some (vs j)
  rest : ∀ j, m ≤ j → listed.getD j false = false
  down : ∀ j, listed.getD j false = true → ∀ d ∈ depsOf ops j, listed.getD d false = true

theorem looseB_spec {m n : Nat} (h : looseB ops m n = true) : Region.noSelect ops = true ∧ m ≤ ops.size ∧ Region.seqB .any ops (ops.size - m) m (Array.replicate m true ++ Array.replicate (ops.size - m) false) = true ∧ (∀ i o, i < m → ops[i]? = some o → o.guard = none ∧
    (∀ t, Operand.tmp t ∈ o.op.operands → ∀ j, j < m → dstOf ops j = some t → j ∈ depsOf ops i) ∧ (∀ d, dstOf ops i = some d → d < n ∧ ∀ j, j < m → j ≠ i → dstOf ops j ≠ some d) ∧ ∀ j ∈ depsOf ops i, j < i) ∧ ∀ i, i < ops.size → m ≤ i → ∀ j, j < m → j ∈ cloFrom ops i (depsOf ops i) := by
  unfold looseB at h
  simp only [Bool.and_eq_true, decide_eq_true_eq] at h
  obtain ⟨⟨⟨⟨h1, h2⟩, h3⟩, h4⟩, h5⟩ := h
  refine ⟨h1, h2, h3, fun i o him hi => ?_, fun i hi hm j hj => ?_⟩
  · rw [List.all_eq_true] at h4
    have h2 := h4 i (List.mem_range.2 him)
    rw [hi] at h2
    simp only [Bool.and_eq_true] at h2
    obtain ⟨⟨⟨hg, hr⟩, hd⟩, ha⟩ := h2
    refine ⟨by simpa using hg, fun t ht j hjm hj => ?_, fun d hdd => ?_, fun j hj => ?_⟩
    · rw [List.all_eq_true] at hr
      have h3 := hr _ (Array.mem_toList_iff.2 ht)
      simp only [List.all_eq_true] at h3
      have h4 := h3 j (List.mem_range.2 hjm)
      rw [hj] at h4
      simpa using h4
    · rw [hdd] at hd
      simp only [Bool.and_eq_true, decide_eq_true_eq, List.all_eq_true] at hd
      refine ⟨hd.1, fun j hjm hne hj => ?_⟩
      have h4 := hd.2 j (List.mem_range.2 hjm)
      rw [hj] at h4
      simp [hne] at h4
    · rw [List.all_eq_true] at ha
      simpa using ha j hj
  · rw [List.all_eq_true] at h5
    have h6 := h5 i (List.mem_range.2 hi)
    rw [Bool.or_eq_true, decide_eq_true_eq, List.all_eq_true] at h6
    rcases h6 with h6 | h6
    · omega
    · simpa using h6 j (List.mem_range.2 hj)

theorem loose_any {m : Nat} (hB : looseB ops m a0.tmps.size = true) (hR : ∀ i w w' v, i < m → V i w v → R w w' → V i w' v)
    (step : ∀ i o, i < m → ops[i]? = some o → ∀ (vs : Nat → Value) (k : Nat) (w : World), k < m → S k w → (∀ j ∈ depsOf ops i, V j w (vs j)) →
      looseUpon P (fun v w' => S (k + 1) w' ∧ R w w' ∧ ∃ u, V i w' u ∧ (o.dst ≠ none → u = v)) ((execOp (putsOn ops vs (depsOf ops i) a0).eval o).run P w))
    (done : ∀ (vs : Nat → Value) (w : World), S m w → (∀ j, j < m → V j w (vs j)) → wpList P ops Q (ops.toList.drop m) (putsOn ops vs (List.range m) a0) w) :
    ∀ (fuel : Nat) (listed : Array Bool) (a : Act) (w : World) (vs : Nat → Value), LooseI ops m (S (m - fuel)) V a0 listed a w vs → (List.range m).countP (fun j => !listed.getD j false) = fuel → wpAny P .any ops Q (fuel + (ops.size - m)) listed a w := by
  obtain ⟨hsel, hms, hseq, hops, htail⟩ := looseB_spec hB
  have hdep0 : ∀ (listed : Array Bool) (i : Nat), i ∈ Region.ready .any ops listed → ∀ j ∈ depsOf ops i, listed.getD j false = true := by
    intro listed i hi j hj
    obtain ⟨hun, o, ho, hall⟩ := mem_ready.1 hi
    unfold depsOf at hj
    rw [ho] at hj
    obtain ⟨e, he, rfl⟩ := List.mem_map.1 hj
    obtain ⟨he1, he2⟩ := List.mem_filter.1 he
    exact hall e (Array.mem_toList_iff.1 he1) he2
  intro fuel
  induction fuel with
  | zero =>
    intro listed a w vs I hc
    have all : ∀ j, j < m → listed.getD j false = true := by
      intro j hj
      have := List.countP_eq_zero.1 hc j (List.mem_range.2 hj)
      simpa using this
    have ha : a = putsOn ops vs (List.range m) a0 := by
      have ht : a.tmps = (putsOn ops vs (List.range m) a0).tmps := by
        apply Array.ext_getElem?
        intro t
        by_cases hx : ∃ j, j < m ∧ dstOf ops j = some t
        · obtain ⟨j, hjm, hj⟩ := hx
          have ho : ops[j]? = some ops[j] := Array.getElem?_eq_getElem (by omega)
          have h3 := (hops j _ hjm ho).2.2.1 t hj
          rw [I.on j t hjm (all j hjm) hj, putsOn_on vs t j hj _ _ h3.1 (List.mem_range.2 hjm) (fun k hkm hk => h3.2 k (List.mem_range.1 hkm) hk)]
        · have hx' : ∀ j, j < m → dstOf ops j ≠ some t := fun j hjm hj => hx ⟨j, hjm, hj⟩
          rw [I.off t hx', putsOn_off vs t _ _ (fun j hjm => hx' j (List.mem_range.1 hjm))]
      have hd : a.defers = (putsOn ops vs (List.range m) a0).defers := by rw [putsOn_defers, I.defers]
      cases a
      simp only at ht hd
      subst ht; subst hd
      rfl
    have hl : listed = Array.replicate m true ++ Array.replicate (ops.size - m) false := by
      apply Array.ext
      · rw [I.size]; simp; omega
      · intro j h1 h2
        rw [I.size] at h1
        have hz : j < listed.size := by rw [I.size]; exact h1
        by_cases hj : j < m
        · have := all j hj
          simp [Array.getD, hz] at this
          simp [hj, this]
        · have := I.rest j (by omega)
          simp [Array.getD, hz] at this
          simp [Array.getElem_append, hj, this]
    rw [ha, hl, Nat.zero_add]
    have hlen : (ops.toList.drop m).length = ops.size - m := by simp
    rw [← hlen]
    refine wpAny_of_seq (ops.toList.drop m) m _ _ _ (fun j => ?_) (by rw [hlen]; exact hseq) (done vs w I.inS (fun j hj => I.kind j hj (all j hj)))
    rw [List.getElem?_drop]
    simp
  | succ fuel ih =>
    intro listed a w vs I hc
    have low : ∀ i ∈ Region.ready .any ops listed, i < m := by
      intro i hi
      rcases Nat.lt_or_ge i m with h | h
      · exact h
      · exfalso
        obtain ⟨_, o, ho, _⟩ := mem_ready.1 hi
        have hlt : i < ops.size := (Array.getElem?_eq_some_iff.1 ho).1
        have h0 : (List.range m).countP (fun j => !listed.getD j false) = 0 := by
          rw [List.countP_eq_zero]
          intro j hj
          have := cloFrom_in (p := fun j => listed.getD j false = true) I.down i _ (hdep0 listed i hi) j (htail i hlt h j (List.mem_range.1 hj))
          simpa using this
        omega
    rw [show fuel + 1 + (ops.size - m) = (fuel + (ops.size - m)) + 1 by omega]
    refine ⟨fun hr => ?_, fun i hi => ?_⟩
    · exfalso
      have all : ∀ j, j < m → listed.getD j false = true := by
        intro j
        induction j using Nat.strongRecOn with
        | _ j ihj =>
          intro hj
          rcases hl : listed.getD j false with _ | _
          · exfalso
            have ho : ops[j]? = some ops[j] := Array.getElem?_eq_getElem (by omega)
            have : j ∈ Region.ready .any ops listed := by
              rw [mem_ready]
              refine ⟨?_, ops[j], ho, fun e he hb => ?_⟩
              · have hz : j < listed.size := by rw [I.size]; omega
                simp [Array.getD, hz] at hl ⊢
                exact hl
              · have hm : e.on ∈ depsOf ops j := by
                  unfold depsOf
                  rw [ho]
                  exact List.mem_map.2 ⟨e, List.mem_filter.2 ⟨Array.mem_toList_iff.2 he, hb⟩, rfl⟩
                have hlt := (hops j _ hj ho).2.2.2 _ hm
                exact ihj e.on hlt (by omega)
            rw [hr] at this
            cases this
          · rfl
      have h0 : (List.range m).countP (fun j => !listed.getD j false) = 0 := by
        rw [List.countP_eq_zero]
        intro j hj
        have := all j (List.mem_range.1 hj)
        simpa using this
      omega
    have him := low i hi
    have hdep := hdep0 listed i hi
    obtain ⟨hun, o, ho, hall⟩ := mem_ready.1 hi
    have hlt : i < ops.size := (Array.getElem?_eq_some_iff.1 ho).1
    have hz : i < listed.size := by rw [I.size]; exact hlt
    obtain ⟨hgd, hlook, hdst, hback⟩ := hops i o him ho
    have hfm : fuel + 1 ≤ m := by
      have := List.countP_le_length (p := fun j => !listed.getD j false) (l := List.range m)
      rw [List.length_range] at this
      omega
    have hs := step i o him ho vs _ w (by omega) I.inS (fun j hj => I.kind j (by have := hback j hj; omega) (hdep j hj))
    have hev : execOp (putsOn ops vs (depsOf ops i) a0).eval o = execOp a.eval o := by
      refine execOp_congr o (fun cs b => Region.noSelect_spec hsel i o cs b ho) fun x hx => ?_
      cases x with
      | tmp t =>
        simp only [Act.eval, Array.getD_eq_getD_getElem?]
        congr 1
        by_cases hx' : ∃ j, j < m ∧ dstOf ops j = some t
        · obtain ⟨j, hjm, hj⟩ := hx'
          have hm := hlook t hx j hjm hj
          have h3 := (hops j _ hjm (Array.getElem?_eq_getElem (by omega))).2.2.1 t hj
          rw [I.on j t hjm (hdep j hm) hj, putsOn_on vs t j hj _ _ h3.1 hm (fun k hkm hk => h3.2 k (by have := hback k hkm; omega) hk)]
        · have hx'' : ∀ j, j < m → dstOf ops j ≠ some t := fun j hjm hj => hx' ⟨j, hjm, hj⟩
          rw [I.off t hx'', putsOn_off vs t _ _ (fun j hj => hx'' j (by have := hback j hj; omega))]
      | _ => rfl
    rw [hev] at hs
    have next : ∀ (v : Value) (w' : World), (S (m - (fuel + 1) + 1) w' ∧ R w w' ∧ ∃ u, V i w' u ∧ (o.dst ≠ none → u = v)) → wpAny P .any ops Q (fuel + (ops.size - m)) (listed.setIfInBounds i true) (a.put o.dst v) w' := by
      intro v w' ⟨h1, h2, u, h3, hu⟩
      have hdi : dstOf ops i = o.dst := by unfold dstOf; rw [ho]; rfl
      have hsame : (listed.setIfInBounds i true).getD i false = true := by simp [Array.getD, hz]
      have hoth : ∀ j, j ≠ i → (listed.setIfInBounds i true).getD j false = listed.getD j false := fun j hj => getD_set_ne false (Ne.symm hj)
      refine ih _ _ _ (fun j => if j = i then u else vs j) ⟨by simpa using I.size, by rw [show m - fuel = m - (fuel + 1) + 1 by omega]; exact h1, fun j hjm hj => ?_, ?_, ?_, fun t ht => ?_, fun j t hjm hj ht => ?_, fun j hj => ?_, fun j hj d hd => ?_⟩ ?_
      · by_cases e : j = i
        · subst e; rw [if_pos rfl]; exact h3
        · rw [if_neg e]; rw [hoth j e] at hj; exact hR j w w' _ hjm (I.kind j hjm hj) h2
      · rw [← I.frame]; cases o.dst <;> simp [Act.put]
      · rw [← I.defers]; cases o.dst <;> rfl
      · rw [← I.off t ht]
        have := ht i him
        rw [hdi] at this
        cases hd : o.dst with
        | none => rfl
        | some d => simp only [Act.put]; rw [Array.getElem?_setIfInBounds_ne (fun e => this (by rw [hd, e]))]
      · by_cases e : j = i
        · subst e
          rw [if_pos rfl]
          have h4 := hdst t ht
          rw [hdi] at ht
          rw [hu (by rw [ht]; exact fun h => by cases h), ht]
          have : t < a.tmps.size := by rw [I.frame]; exact h4.1
          simp [Act.put, this]
        · rw [if_neg e]
          rw [hoth j e] at hj
          rw [← I.on j t hjm hj ht]
          cases hd : o.dst with
          | none => rfl
          | some d =>
            have h4 := (hdst d (by rw [hdi]; exact hd)).2 j hjm e
            simp only [Act.put]
            rw [Array.getElem?_setIfInBounds_ne (fun e => h4 (by rw [ht, e]))]
      · rw [hoth j (by omega)]; exact I.rest j hj
      · have hld : listed.getD d false = true := by
          by_cases e : j = i
          · subst e; exact hdep d hd
          · rw [hoth j e] at hj; exact I.down j hj d hd
        by_cases e : d = i
        · rw [e]; exact hsame
        · rw [hoth d e]; exact hld
      · have h5 : (List.range m).countP (fun j => !(listed.setIfInBounds i true).getD j false) + 1 = (List.range m).countP (fun j => !listed.getD j false) := by
          have hnd : (List.range m).Nodup := List.nodup_range
          have hmem : i ∈ List.range m := List.mem_range.2 him
          have hfi : listed.getD i false = false := by
            simp [Array.getD, hz] at hun ⊢
            exact hun
          generalize List.range m = L at hnd hmem
          clear ih hc hs hev hdep hall hdst hlook hback step done hops
          induction L with
          | nil => cases hmem
          | cons x L ihL =>
            rw [List.countP_cons, List.countP_cons]
            rw [List.nodup_cons] at hnd
            by_cases e : x = i
            · subst e
              have h6 : L.countP (fun j => !(listed.setIfInBounds x true).getD j false) = L.countP (fun j => !listed.getD j false) :=
                List.countP_congr fun j hj => by rw [hoth j (fun e => hnd.1 (e ▸ hj))]
              rw [h6, hsame, hfi]
              simp
            · have hm' : i ∈ L := by
                rcases List.mem_cons.1 hmem with h | h
                · exact absurd h.symm e
                · exact h
              have := ihL hnd.2 hm'
              rw [hoth x e]
              omega
        omega
    unfold wpOp
    simp only [ho]
    have hw : Region.wanted o (yielded ops a.tmps) = true := by unfold Region.wanted; rw [hgd]
    simp only [hw, if_true]
    refine .inl ?_
    unfold Oper.wp
    generalize (execOp a.eval o).run P w = r at hs
    cases r with
    | ok n w' =>
      cases n <;> simp only [looseUpon] at hs <;> simp only [Oper.upon]
      case value u => exact next _ _ hs
      case skip => exact next _ _ hs
      case enter f args => exact hs.mono fun e w'' ⟨v, he, hv⟩ => by subst he; exact next _ _ hv
      case row row args => exact Rows.mono hs fun v w'' hv => next _ _ hv
    | halt x w' => simp only [looseUpon] at hs

/-- A region that draws its order: each of the first m operations once, in whatever order; the rest in its own. -/
theorem wp_region_loose {id : Nat} {w : World} {l : List Oper} (m : Nat) (S : Nat → World → Prop) (R : World → World → Prop) (V : Nat → World → Value → Prop) (hm : P.follows .mixedOrders = true) (hB : looseB l.toArray m a0.tmps.size = true) (hS : S 0 w.drew) (hR : ∀ i w w' v, i < m → V i w v → R w w' → V i w' v)
    (step : ∀ i o, i < m → l.toArray[i]? = some o → ∀ (vs : Nat → Value) (k : Nat) (w : World), k < m → S k w → (∀ j ∈ depsOf l.toArray i, V j w (vs j)) →
      looseUpon P (fun v w' => S (k + 1) w' ∧ R w w' ∧ ∃ u, V i w' u ∧ (o.dst ≠ none → u = v)) ((execOp (putsOn l.toArray vs (depsOf l.toArray i) a0).eval o).run P w))
    (done : ∀ (vs : Nat → Value) (w : World), S m w → (∀ j, j < m → V j w (vs j)) → wpList P l.toArray Q (l.drop m) (putsOn l.toArray vs (List.range m) a0) w) :
    (Code.region id l.toArray true).wp P Q a0 w := by
  have hms := (looseB_spec hB).2.1
  refine wp_region_any hm ?_
  have hcount : (List.range m).countP (fun j => !(Array.replicate l.toArray.size false).getD j false) = m := by
    have : (List.range m).countP (fun j => !(Array.replicate l.toArray.size false).getD j false) = (List.range m).length := by
      rw [List.countP_eq_length]
      intro j hj
      have := List.mem_range.1 hj
      have hj' : j < l.toArray.size := by omega
      simp [Array.getD]
    rw [this, List.length_range]
  have hf : l.toArray.size = m + (l.toArray.size - m) := by omega
  have H := loose_any (Q := Q) hB hR step (by simpa using done) m (Array.replicate l.toArray.size false) a0 w.drew (fun _ => undef) ⟨by simp, by rw [Nat.sub_self]; exact hS, fun j _ hj => ?_, rfl, rfl, fun _ _ => rfl, fun j t _ hj _ => ?_, fun j hj => ?_, fun j hj => ?_⟩ hcount
  · rw [← hf] at H; exact H
  · exfalso
    simp [Array.getD] at hj
  · exfalso
    simp [Array.getD] at hj
  · simp [Array.getD]
  · exfalso
    simp [Array.getD] at hj

/-! ### The same, an obligation for each operation -/
def kindAt (Vs : List (World → Value → Prop)) (j : Nat) : World → Value → Prop := Vs.getD j (fun _ _ => True)
def DepK (Vs : List (World → Value → Prop)) (vs : Nat → Value) (w : World) : List Nat → Prop
  | [] => True
  | j :: l => kindAt Vs j w (vs j) ∧ DepK Vs vs w l
theorem depK_mem {Vs : List (World → Value → Prop)} {vs : Nat → Value} {w : World} : ∀ {l : List Nat}, (∀ j ∈ l, kindAt Vs j w (vs j)) → DepK Vs vs w l
  | [], _ => trivial
  | j :: _, h => ⟨h j (List.mem_cons_self ..), depK_mem fun k hk => h k (List.mem_cons_of_mem _ hk)⟩
/-- What is owed for one operation: in every world of the class, what it waits for being of its kind, it goes through and hands back a value of its kind. -/
def Step1 (P : Program) (ops : Array Oper) (m : Nat) (S : Nat → World → Prop) (R : World → World → Prop) (Vs : List (World → Value → Prop)) (a0 : Act) (i : Nat) (o : Oper) : Prop :=
  ∀ (vs : Nat → Value) (k : Nat) (w : World), k < m → S k w → DepK Vs vs w (depsOf ops i) → ∀ b, b = putsOn ops vs (depsOf ops i) a0 → ∀ K : Act → World → Prop, Shut (∀ v w', S (k + 1) w' → R w w' → kindAt Vs i w' v → K (b.put o.dst v) w') → Oper.wp P o b w K (fun _ _ _ => False)
def Steps (P : Program) (ops : Array Oper) (m : Nat) (S : Nat → World → Prop) (R : World → World → Prop) (Vs : List (World → Value → Prop)) (a0 : Act) : List Oper → Nat → Prop
  | [], _ => True
  | o :: l, i => Step1 P ops m S R Vs a0 i o ∧ Steps P ops m S R Vs a0 l (i + 1)
theorem steps_at {m : Nat} {Vs : List (World → Value → Prop)} : ∀ {l : List Oper} {k : Nat}, Steps P ops m S R Vs a0 l k → ∀ i o, l[i]? = some o → Step1 P ops m S R Vs a0 (k + i) o
  | [], _, _, i, o, h => by simp at h
  | o' :: l, k, hs, 0, o, h => by
    obtain rfl : o' = o := by simpa using h
    exact hs.1
  | o' :: l, k, hs, i + 1, o, h => by
    have := steps_at hs.2 i o (by simpa using h)
    rwa [show k + (i + 1) = k + 1 + i by omega]
theorem wp_region_lo {id : Nat} {w : World} {l : List Oper} (m : Nat) (S : Nat → World → Prop) (R : World → World → Prop) (Vs : List (World → Value → Prop)) (hm : P.follows .mixedOrders = true) (hB : looseB l.toArray m a0.tmps.size = true) (hS : S 0 w.drew)
    (hR : ∀ V ∈ Vs, ∀ w w' v, V w v → R w w' → V w' v)
    (step : Steps P l.toArray m S R Vs a0 (l.take m) 0)
    (done : ∀ (vs : Nat → Value) (w : World), S m w → DepK Vs vs w (List.range m) → ∀ b, b = putsOn l.toArray vs (List.range m) a0 → wpList P l.toArray Q (l.drop m) b w) :
    (Code.region id l.toArray true).wp P Q a0 w := by
  refine wp_region_loose m S R (fun j => kindAt Vs j) hm hB hS (fun i w w' v _ hv hr => ?_) (fun i o hi ho vs k w hk hS hd => ?_) (fun vs w hS hd => done vs w hS (depK_mem fun j hj => hd j (List.mem_range.1 hj)) _ rfl)
  · unfold kindAt at hv ⊢
    rw [List.getD_eq_getElem?_getD] at hv ⊢
    cases h : Vs[i]? with
    | none => trivial
    | some V => rw [h] at hv; exact hR V (List.mem_of_getElem? h) w w' v hv hr
  · have hb := (looseB_spec hB).2.2.2.1 i o hi ho
    have hsz : ∀ d, o.dst = some d → d < (putsOn l.toArray vs (depsOf l.toArray i) a0).tmps.size := by
      intro d hd
      rw [putsOn_size]
      exact (hb.2.2.1 d (by unfold dstOf; rw [ho]; exact hd)).1
    have h1 : Step1 P l.toArray m S R Vs a0 i o := by
      have := steps_at step i o (by rw [List.getElem?_take, if_pos hi]; simpa using ho)
      rwa [Nat.zero_add] at this
    have h2 := h1 vs k w hk hS (depK_mem hd) _ rfl (fun a' w' => ∃ v, a' = (putsOn l.toArray vs (depsOf l.toArray i) a0).put o.dst v ∧ S (k + 1) w' ∧ R w w' ∧ kindAt Vs i w' v) (fun v w' a b c => ⟨v, rfl, a, b, c⟩)
    generalize putsOn l.toArray vs (depsOf l.toArray i) a0 = b at h2 hsz
    have inj : ∀ (u v : Value), b.put o.dst u = b.put o.dst v → o.dst ≠ none → v = u := by
      intro u v h hne
      cases hd : o.dst with
      | none => exact absurd hd hne
      | some d =>
        rw [hd] at h
        have e1 : (b.put (some d) u).tmps[d]? = some u := by simp [Act.put, hsz d hd]
        have e2 : (b.put (some d) v).tmps[d]? = some v := by simp [Act.put, hsz d hd]
        rw [h, e2] at e1
        exact Option.some.inj e1
    unfold Oper.wp at h2
    generalize (execOp b.eval o).run P w = r at h2 ⊢
    cases r with
    | ok n w' =>
      cases n <;> simp only [Oper.upon] at h2 <;> simp only [looseUpon]
      case value u =>
        obtain ⟨v, e, h3, h4, h5⟩ := h2
        exact ⟨h3, h4, v, h5, inj u v e⟩
      case skip =>
        obtain ⟨v, e, h3, h4, h5⟩ := h2
        exact ⟨h3, h4, v, h5, inj undef v e⟩
      case enter f args =>
        refine h2.mono fun e w'' he => ?_
        cases e with
        | returned u =>
          obtain ⟨v, e, h3, h4, h5⟩ := he
          exact ⟨u, rfl, h3, h4, v, h5, inj u v e⟩
        | panicked c => exact he.elim
        | outgrown => obtain ⟨_, _, h⟩ := he; exact h.elim
      case defer d =>
        obtain ⟨v, e, _⟩ := h2
        have h6 := congrArg (fun a : Act => a.defers.length) e
        cases hd : o.dst <;> rw [hd] at h6 <;> simp [Act.put] at h6
      case row row args =>
        refine Rows.mono h2 fun u w'' he => ?_
        obtain ⟨v, e, h3, h4, h5⟩ := he
        exact ⟨h3, h4, v, h5, inj u v e⟩
    | halt x w' =>
      cases x <;> simp only [Oper.upon] at h2
end
end Go.Proofs.Ytjogdkeoadkbnaa
