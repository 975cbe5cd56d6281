import Derived.Test.YtadiocpcpjbjpaaQ
import Derived.Laws.MakeOwn
import Derived.Orders
namespace Go.Proofs.Ytadiocpcpjbjpaa
open Go.RowKit

/-! ### A region whose operations come in any order: by an invariant -/
theorem count_set : ∀ (l : List Bool) (i : Nat), l[i]? = some false → (l.set i true).count false + 1 = l.count false
  | [], i, h => by simp at h
  | b :: l, 0, h => by
    simp only [List.getElem?_cons_zero, Option.some.injEq] at h
    subst h
    simp
  | b :: l, i + 1, h => by
    simp only [List.getElem?_cons_succ] at h
    have := count_set l i h
    simp only [List.set_cons_succ, List.count_cons]
    omega

theorem wpAny_inv {P : Program} {md : Region.Mode} {ops : Array Oper} {Q : Exit → Act → World → Prop} (Inv : Array Bool → Act → World → Prop)
    (hstep : ∀ l a w, Inv l a w → (Region.ready md ops l = [] → Q .normal a w) ∧ ∀ i ∈ Region.ready md ops l, wpOp P ops Q i (Inv (l.setIfInBounds i true)) a w) :
    ∀ (fuel : Nat) (l : Array Bool) (a : Act) (w : World), l.toList.count false ≤ fuel → Inv l a w → wpAny P md ops Q fuel l a w := by
  have hno : ∀ (l : Array Bool) (i : Nat), i ∈ Region.ready md ops l → l.toList[i]? = some false := by
    intro l i h
    have h1 := (mem_ready.1 h).1
    rw [Array.getElem?_toList]
    cases hg : l[i]? with
    | none =>
      have : l.getD i true = true := by simp [Array.getD_eq_getD_getElem?, hg]
      rw [this] at h1
      cases h1
    | some b =>
      have : l.getD i true = b := by simp [Array.getD_eq_getD_getElem?, hg]
      rw [← this, h1]
  intro fuel
  induction fuel with
  | zero =>
    intro l a w hc hi
    have hr : Region.ready md ops l = [] := by
      cases hr : Region.ready md ops l with
      | nil => rfl
      | cons i r =>
        have h1 := hno l i (by rw [hr]; exact List.mem_cons_self)
        have := count_set _ _ h1
        omega
    exact ⟨hr, (hstep l a w hi).1 hr⟩
  | succ fuel ih =>
    intro l a w hc hi
    refine ⟨(hstep l a w hi).1, fun i hr => wpOp_mono (fun a' w' h => ih _ a' w' ?_ h) ((hstep l a w hi).2 i hr)⟩
    have := count_set _ _ (hno l i hr)
    rw [Array.toList_setIfInBounds]
    omega

theorem wp_region_inv {P : Program} {id : Nat} {ops : Array Oper} {Q : Exit → Act → World → Prop} {a : Act} {w : World} (hm : P.follows .mixedOrders = true) (Inv : Array Bool → Act → World → Prop)
    (h0 : Inv (Array.replicate ops.size false) a w.drew)
    (hstep : ∀ l a w, Inv l a w → (Region.ready .any ops l = [] → Q .normal a w) ∧ ∀ i ∈ Region.ready .any ops l, wpOp P ops Q i (Inv (l.setIfInBounds i true)) a w) : (Code.region id ops true).wp P Q a w :=
  wp_region_any hm (wpAny_inv Inv hstep ops.size _ a _ (by simp) h0)

/-- The rows of what is heard, in the fixed example. -/
def headH : List (List Bool) := [[false, false, false, false, false], [false, false, false, true, false], [false, false, false, false, false], [false, true, false, false, false], [false, false, false, false, false]]
def rowC (k : Nat) : Array Value := (((headH[k]?).getD []).map Value.bool).toArray

/-- A row lies. -/
def RowAt (w : World) (v : Value) (k : Nat) : Prop := ∃ b, v = .slice (some ⟨b, 0, none⟩) 5 5 ∧ Blk w b (rowC k) 4

theorem RowAt.alloc {w : World} {v : Value} {k : Nat} (h : RowAt w v k) (o : Obj) : RowAt (w.alloc o) v k := by
  obtain ⟨b, h1, h2⟩ := h
  exact ⟨b, h1, h2.alloc o⟩

/-- The frame, with seven slots put anew. -/
def seven (t : Array Value) (v0 v1 v2 v3 v4 v5 v6 : Value) : Array Value := ((((((t.setIfInBounds 5 v6).setIfInBounds 21 v0).setIfInBounds 22 v1).setIfInBounds 23 v2).setIfInBounds 24 v3).setIfInBounds 25 v4).setIfInBounds 26 v5

theorem seven_of {s t : Array Value} (hs : s.size = t.size) (hne : ∀ i, i ≠ 5 → (i < 21 ∨ 26 < i) → s[i]? = t[i]?) : s = seven t (s.getD 21 undef) (s.getD 22 undef) (s.getD 23 undef) (s.getD 24 undef) (s.getD 25 undef) (s.getD 26 undef) (s.getD 5 undef) := by
  apply Array.ext_getElem?
  intro i
  unfold seven
  simp only [Array.getElem?_setIfInBounds, Array.size_setIfInBounds]
  by_cases hi : i < s.size
  · have hv : ∀ j, i = j → s[i]? = some (s.getD j undef) := by
      rintro j rfl
      simp [Array.getD_eq_getD_getElem?, Array.getElem?_eq_getElem hi]
    have ht : i < t.size := by omega
    by_cases h26 : i = 26
    · subst h26; rw [hv 26 rfl]; simp [ht]
    by_cases h25 : i = 25
    · subst h25; rw [hv 25 rfl]; simp [ht]
    by_cases h24 : i = 24
    · subst h24; rw [hv 24 rfl]; simp [ht]
    by_cases h23 : i = 23
    · subst h23; rw [hv 23 rfl]; simp [ht]
    by_cases h22 : i = 22
    · subst h22; rw [hv 22 rfl]; simp [ht]
    by_cases h21 : i = 21
    · subst h21; rw [hv 21 rfl]; simp [ht]
    by_cases h5 : i = 5
    · subst h5; rw [hv 5 rfl]; simp [ht]
    rw [if_neg (Ne.symm h26), if_neg (Ne.symm h25), if_neg (Ne.symm h24), if_neg (Ne.symm h23), if_neg (Ne.symm h22), if_neg (Ne.symm h21), if_neg (Ne.symm h5)]
    exact hne i h5 (by omega)
  · rw [Array.getElem?_eq_none (by omega)]
    have ht : ¬ i < t.size := by omega
    repeat' split
    all_goals first | rfl | omega | exact (Array.getElem?_eq_none (by omega)).symm

/-- What is kept while the seven operations come up, in whatever order. -/
def FiveInv (a0 : Act) (w0 : World) (l : Array Bool) (a : Act) (w : World) : Prop :=
  l.size = 7 ∧ a.defers = a0.defers ∧ a.tmps.size = a0.tmps.size ∧ (∀ i, i ≠ 5 → (i < 21 ∨ 26 < i) → a.tmps[i]? = a0.tmps[i]?) ∧ Below w0.heap.size w0 w ∧
  (∀ k, k < 5 → l.getD k false = true → RowAt w (a.tmps.getD (21 + k) undef) k) ∧
  (l.getD 5 false = true → HearsOk w (a.tmps.getD 26 undef) headH ∧ ∃ x, a.tmps.getD 26 undef = .slice x 5 5) ∧ (l.getD 6 false = true → l.getD 5 false = true ∧ a.tmps.getD 5 undef = a.tmps.getD 26 undef)

theorem getD_put_same {t : Array Value} {i : Nat} {v d : Value} (h : i < t.size) : (t.setIfInBounds i v).getD i d = v := by
  simp [Array.getD_eq_getD_getElem?, h]
theorem getD_put_other {t : Array Value} {i j : Nat} {v d : Value} (h : i ≠ j) : (t.setIfInBounds i v).getD j d = t.getD j d := by
  simp [Array.getD_eq_getD_getElem?, h]
theorem getB_same {t : Array Bool} {i : Nat} (h : i < t.size) : (t.setIfInBounds i true).getD i false = true := by
  simp [Array.getD_eq_getD_getElem?, h]
theorem getB_other {t : Array Bool} {i j : Nat} (h : i ≠ j) : (t.setIfInBounds i true).getD j false = t.getD j false := by
  simp [Array.getD_eq_getD_getElem?, h]

/-- Five rows that lie, and a slice of them, are what is heard. -/
theorem hears_five {w : World} {v0 v1 v2 v3 v4 : Value} (h0 : RowAt w v0 0) (h1 : RowAt w v1 1) (h2 : RowAt w v2 2) (h3 : RowAt w v3 3) (h4 : RowAt w v4 4) :
    HearsOk (w.alloc (.cells #[v0, v1, v2, v3, v4] 49)) (.slice (some ⟨w.heap.size, 0, none⟩) 5 5) headH := by
  obtain ⟨b0, rfl, h0⟩ := h0
  obtain ⟨b1, rfl, h1⟩ := h1
  obtain ⟨b2, rfl, h2⟩ := h2
  obtain ⟨b3, rfl, h3⟩ := h3
  obtain ⟨b4, rfl, h4⟩ := h4
  have hb := Blk.new w #[.slice (some ⟨b0, 0, none⟩) 5 5, .slice (some ⟨b1, 0, none⟩) 5 5, .slice (some ⟨b2, 0, none⟩) 5 5, .slice (some ⟨b3, 0, none⟩) 5 5, .slice (some ⟨b4, 0, none⟩) 5 5] 49
  have hrow : ∀ (b k : Nat) (row : List Bool), row.length = 5 → (row.map Value.bool).toArray = rowC k → Blk w b (rowC k) 4 →
      Rows 1 (w.alloc (.cells #[.slice (some ⟨b0, 0, none⟩) 5 5, .slice (some ⟨b1, 0, none⟩) 5 5, .slice (some ⟨b2, 0, none⟩) 5 5, .slice (some ⟨b3, 0, none⟩) 5 5, .slice (some ⟨b4, 0, none⟩) 5 5] 49)) (.slice (some ⟨b, 0, none⟩) 5 5) (row.map boV) := by
    intro b k row hl hr hb
    refine ⟨_, 5, by rw [List.length_map, hl], by rw [List.length_map, hl]; exact Nat.le_refl _, by unfold maxLen; omega, by intro cs h; obtain ⟨x, _, rfl⟩ := List.mem_map.1 h; rfl, fun _ => ⟨b, 0, rfl, fun i cs hi j x hj => ?_⟩⟩
    rw [List.getElem?_map] at hi
    cases hx : row[i]? with
    | none => rw [hx] at hi; cases hi
    | some y =>
      rw [hx] at hi
      simp only [Option.map_some, Option.some.injEq] at hi
      subst hi
      cases j with
      | succ j => simp [boV] at hj
      | zero =>
        simp only [boV, List.getElem?_cons_zero, Option.some.injEq] at hj
        subst hj
        rw [Nat.zero_add, Nat.mul_one, Nat.add_zero, (hb.alloc _).cell, ← hr]
        simp [hx]
  refine ⟨[(some ⟨b0, 0, none⟩, 5), (some ⟨b1, 0, none⟩, 5), (some ⟨b2, 0, none⟩, 5), (some ⟨b3, 0, none⟩, 5), (some ⟨b4, 0, none⟩, 5)], ⟨_, 5, rfl, by simp [headH], by unfold maxLen; omega, by simp [headH], fun _ => ⟨_, 0, rfl, fun i cs hi j x hj => ?_⟩⟩, rfl, ?_⟩
  · have hi' : i < 5 := by
      have := (List.getElem?_eq_some_iff.1 hi).1
      simpa [headH] using this
    have hjz : j = 0 := by
      have h1 := List.mem_of_getElem? hi
      simp [headH] at h1
      rcases h1 with rfl | rfl | rfl | rfl | rfl <;> (have := (List.getElem?_eq_some_iff.1 hj).1; simp at this; exact this)
    subst hjz
    rw [Nat.zero_add, Nat.mul_one, Nat.add_zero, hb.cell]
    rcases i with _ | _ | _ | _ | _ | i
    · simp [headH] at hi; subst hi; simpa using hj
    · simp [headH] at hi; subst hi; simpa using hj
    · simp [headH] at hi; subst hi; simpa using hj
    · simp [headH] at hi; subst hi; simpa using hj
    · simp [headH] at hi; subst hi; simpa using hj
    · omega
  · intro p hp
    simp only [headH, List.zip_cons_cons, List.zip_nil_right, List.mem_cons, List.not_mem_nil, or_false] at hp
    rcases hp with rfl | rfl | rfl | rfl | rfl
    · exact hrow b0 0 _ rfl rfl h0
    · exact hrow b1 1 _ rfl rfl h1
    · exact hrow b2 2 _ rfl rfl h2
    · exact hrow b3 3 _ rfl rfl h3
    · exact hrow b4 4 _ rfl rfl h4

/-- Five rows in any order, a slice of them, and an assignment. -/
theorem region_five {ops : Array Oper} {id : Nat} {Q : Exit → Act → World → Prop} {a0 : Act} {w0 : World} (hm : Try.prog.follows .mixedOrders = true) (hsz : ops.size = 7) (ha : 26 < a0.tmps.size)
    (hrow : ∀ k, k < 5 → ∀ (K : Act → World → Prop) (a : Act) (w : World), K (a.put (some (21 + k)) (.slice (some ⟨w.heap.size, 0, none⟩) 5 5)) (w.alloc (.cells (rowC k) 4)) → wpOp Try.prog ops Q k K a w)
    (hbuild : ∀ (K : Act → World → Prop) (a : Act) (w : World), (∀ j, 21 ≤ j → j ≤ 25 → ∃ b, a.tmps.getD j undef = .slice (some ⟨b, 0, none⟩) 5 5) → K (a.put (some 26) (.slice (some ⟨w.heap.size, 0, none⟩) 5 5)) (w.alloc (.cells #[a.tmps.getD 21 undef, a.tmps.getD 22 undef, a.tmps.getD 23 undef, a.tmps.getD 24 undef, a.tmps.getD 25 undef] 49)) → wpOp Try.prog ops Q 5 K a w)
    (hassign : ∀ (K : Act → World → Prop) (a : Act) (w : World), K (a.put (some 5) (a.tmps.getD 26 undef)) w → wpOp Try.prog ops Q 6 K a w)
    (hedge5 : ∀ l, 5 ∈ Region.ready .any ops l → ∀ k, k < 5 → l.getD k false = true) (hedge6 : ∀ l, 6 ∈ Region.ready .any ops l → l.getD 5 false = true)
    (hr0 : ∀ (l : Array Bool) k, k < 5 → l.getD k true = false → k ∈ Region.ready .any ops l)
    (hr5 : ∀ (l : Array Bool), l.getD 5 true = false → (∀ k, k < 5 → l.getD k false = true) → 5 ∈ Region.ready .any ops l)
    (hr6 : ∀ (l : Array Bool), l.getD 6 true = false → (∀ k, k < 6 → l.getD k false = true) → 6 ∈ Region.ready .any ops l)
    (hQ : ∀ v0 v1 v2 v3 v4 x w', HearsOk w' (.slice x 5 5) headH → Below w0.heap.size w0 w' → Q .normal ⟨seven a0.tmps v0 v1 v2 v3 v4 (.slice x 5 5) (.slice x 5 5), a0.defers⟩ w') : (Code.region id ops true).wp Try.prog Q a0 w0 := by
  refine wp_region_inv hm (FiveInv a0 w0) ⟨by simp [hsz], rfl, rfl, fun _ _ _ => rfl, (Below.refl _ _).drew, ?_, ?_, ?_⟩ ?_
  · intro k hk h; simp [hsz, Array.getD_eq_getD_getElem?, Array.getElem?_replicate] at h; split at h <;> simp at h
  · intro h; simp [hsz, Array.getD_eq_getD_getElem?] at h
  · intro h; simp [hsz, Array.getD_eq_getD_getElem?] at h
  rintro l a w ⟨hl, hd, hts, hne, hB, hrows, h5, h6⟩
  have htf : ∀ j, j < 7 → (l.getD j true = false ∨ l.getD j false = true) := by
    intro j hj
    have : j < l.size := by omega
    simp only [Array.getD_eq_getD_getElem?, Array.getElem?_eq_getElem this, Option.getD_some]
    cases l[j] <;> simp
  constructor
  · intro hr
    have n0 : ∀ k, k < 5 → l.getD k false = true := fun k hk => (htf k (by omega)).resolve_left (fun h => by have := hr0 l k hk h; rw [hr] at this; cases this)
    have n5 : l.getD 5 false = true := (htf 5 (by omega)).resolve_left (fun h => by have := hr5 l h n0; rw [hr] at this; cases this)
    have n6 : l.getD 6 false = true := (htf 6 (by omega)).resolve_left (fun h => by
      have := hr6 l h (fun k hk => by
        by_cases e : k = 5
        · subst e; exact n5
        · exact n0 k (by omega))
      rw [hr] at this
      cases this)
    obtain ⟨hh, x, hx⟩ := h5 n5
    have h7 := seven_of hts hne
    rw [(h6 n6).2, hx] at h7
    rw [hx] at hh
    have := hQ (a.tmps.getD 21 undef) (a.tmps.getD 22 undef) (a.tmps.getD 23 undef) (a.tmps.getD 24 undef) (a.tmps.getD 25 undef) x w hh hB
    rw [← h7, ← hd] at this
    exact this
  · intro i hi
    have hi7 : i < 7 := by
      have := (mem_ready.1 hi).2
      obtain ⟨o, ho, _⟩ := this
      have := (Array.getElem?_eq_some_iff.1 ho).1
      omega
    have hnl : l.getD i false = false := by
      have h1 := (mem_ready.1 hi).1
      have : i < l.size := by omega
      simp only [Array.getD_eq_getD_getElem?, Array.getElem?_eq_getElem this, Option.getD_some] at h1 ⊢
      exact h1
    by_cases hi5 : i < 5
    · refine hrow i hi5 _ a w ⟨by simp [hl], hd, by simp [Act.put, hts], ?_, hB.alloc hB.size _, ?_, ?_, ?_⟩
      · intro j h1 h2
        simp only [Act.put]
        rw [Array.getElem?_setIfInBounds, if_neg (by omega)]
        exact hne j h1 h2
      · intro k hk h
        by_cases e : i = k
        · subst e
          simp only [Act.put]
          rw [getD_put_same (by omega)]
          exact ⟨_, rfl, Blk.new _ _ _⟩
        · simp only [Act.put]
          rw [getD_put_other (by omega)]
          rw [getB_other e] at h
          exact (hrows k hk h).alloc _
      · intro h
        rw [getB_other (by omega)] at h
        simp only [Act.put]
        rw [getD_put_other (by omega)]
        obtain ⟨g1, g2⟩ := h5 h
        exact ⟨g1.below ((Below.refl _ _).alloc (Nat.le_refl _) _) (Nat.le_refl _), g2⟩
      · intro h
        rw [getB_other (by omega)] at h ⊢
        simp only [Act.put]
        rw [getD_put_other (by omega), getD_put_other (by omega)]
        exact h6 h
    · by_cases e5 : i = 5
      · subst e5
        have hall := hedge5 l hi
        refine hbuild _ a w ?_ ⟨by simp [hl], hd, by simp [Act.put, hts], ?_, hB.alloc hB.size _, ?_, ?_, ?_⟩
        · intro j h1 h2
          obtain ⟨b, this, _⟩ := hrows (j - 21) (by omega) (hall _ (by omega))
          rw [show 21 + (j - 21) = j by omega] at this
          exact ⟨b, this⟩
        · intro j h1 h2
          simp only [Act.put]
          rw [Array.getElem?_setIfInBounds, if_neg (by omega)]
          exact hne j h1 h2
        · intro k hk h
          simp only [Act.put]
          rw [getD_put_other (by omega)]
          rw [getB_other (by omega)] at h
          exact (hrows k hk h).alloc _
        · intro h
          simp only [Act.put]
          rw [getD_put_same (by omega)]
          exact ⟨hears_five (hrows 0 (by omega) (hall 0 (by omega))) (hrows 1 (by omega) (hall 1 (by omega))) (hrows 2 (by omega) (hall 2 (by omega))) (hrows 3 (by omega) (hall 3 (by omega))) (hrows 4 (by omega) (hall 4 (by omega))), _, rfl⟩
        · intro h
          rw [getB_other (by omega)] at h
          rw [(h6 h).1] at hnl
          cases hnl
      · have e6 : i = 6 := by omega
        subst e6
        have hall := hedge6 l hi
        refine hassign _ a w ⟨by simp [hl], hd, by simp [Act.put, hts], ?_, hB, ?_, ?_, ?_⟩
        · intro j h1 h2
          simp only [Act.put]
          rw [Array.getElem?_setIfInBounds, if_neg (by omega)]
          exact hne j h1 h2
        · intro k hk h
          simp only [Act.put]
          rw [getD_put_other (by omega)]
          rw [getB_other (by omega)] at h
          exact hrows k hk h
        · intro h
          rw [getB_other (by omega)] at h
          simp only [Act.put]
          rw [getD_put_other (by omega)]
          exact h5 h
        · intro h
          rw [getB_other (by omega)]
          refine ⟨hall, ?_⟩
          simp only [Act.put]
          rw [getD_put_same (by omega), getD_put_other (by omega)]

end Go.Proofs.Ytadiocpcpjbjpaa
