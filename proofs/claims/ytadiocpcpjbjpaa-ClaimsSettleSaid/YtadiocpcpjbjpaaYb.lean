import Derived.Test.YtadiocpcpjbjpaaYa
namespace Go.Proofs.Ytadiocpcpjbjpaa
open Go.RowKit

/-- Two calls that answer tables, two variables for them, in any order. -/
theorem region_six {ops : Array Oper} {id : Nat} {Q : Exit → Act → World → Prop} {a0 : Act} {w0 : World} {bt : Nat} {t : Tb} {V : Nat → Value} {P1 P2 : Tb → Prop}
    (hm : Try.prog.follows .mixedOrders = true) (hsz : ops.size = 14) (ha : 59 < a0.tmps.size) (hbt : bt < w0.heap.size) (hT : TS bt t w0 w0)
    (hpure : ∀ i, i ∈ pure8 → ∀ (K : Act → World → Prop) (a : Act) (w : World), TS bt t w0 w → (∀ j, j ∉ slots12 → a.tmps[j]? = a0.tmps[j]?) → K (a.put (some (50 + i)) (V i)) w → wpOp Try.prog ops Q i K a w)
    (hcall1 : ∀ (K : Act → World → Prop) (a : Act) (w : World), TS bt t w0 w → a.tmps.getD 50 undef = V 0 → a.tmps.getD 51 undef = V 1 → a.tmps.getD 52 undef = V 2 → a.tmps.getD 53 undef = V 3 →
      (∀ t1 w', Below w.heap.size w w' → TbOk w' t1 → P1 t1 → K (a.put (some 54) (tbA t1)) w') → wpOp Try.prog ops Q 4 K a w)
    (hcall2 : ∀ (K : Act → World → Prop) (a : Act) (w : World), TS bt t w0 w → a.tmps.getD 55 undef = V 5 → a.tmps.getD 56 undef = V 6 → a.tmps.getD 57 undef = V 7 → a.tmps.getD 58 undef = V 8 →
      (∀ t1 w', Below w.heap.size w w' → TbOk w' t1 → P2 t1 → K (a.put (some 59) (tbA t1)) w') → wpOp Try.prog ops Q 9 K a w)
    (halloc1 : ∀ (K : Act → World → Prop) (a : Act) (w : World), K (a.put (some 14) (.pointer (some ⟨w.heap.size, 0, none⟩))) (w.alloc (.cells nil3 26)) → wpOp Try.prog ops Q 10 K a w)
    (halloc2 : ∀ (K : Act → World → Prop) (a : Act) (w : World), K (a.put (some 15) (.pointer (some ⟨w.heap.size, 0, none⟩))) (w.alloc (.cells nil3 26)) → wpOp Try.prog ops Q 11 K a w)
    (hstore1 : ∀ (K : Act → World → Prop) (a : Act) (w : World) (b : Nat) (t1 : Tb), a.tmps.getD 14 undef = .pointer (some ⟨b, 0, none⟩) → a.tmps.getD 54 undef = tbA t1 → Blk w b nil3 26 → K a (w.setRow b (tbV t1).toArray) → wpOp Try.prog ops Q 12 K a w)
    (hstore2 : ∀ (K : Act → World → Prop) (a : Act) (w : World) (b : Nat) (t1 : Tb), a.tmps.getD 15 undef = .pointer (some ⟨b, 0, none⟩) → a.tmps.getD 59 undef = tbA t1 → Blk w b nil3 26 → K a (w.setRow b (tbV t1).toArray) → wpOp Try.prog ops Q 13 K a w)
    (e4 : ∀ l, 4 ∈ Region.ready .any ops l → ∀ k, k < 4 → l.getD k false = true) (e9 : ∀ l, 9 ∈ Region.ready .any ops l → ∀ k, 5 ≤ k → k < 9 → l.getD k false = true)
    (e12 : ∀ l, 12 ∈ Region.ready .any ops l → l.getD 4 false = true ∧ l.getD 10 false = true) (e13 : ∀ l, 13 ∈ Region.ready .any ops l → l.getD 9 false = true ∧ l.getD 11 false = true)
    (hdone : ∀ l : Array Bool, l.size = 14 → Region.ready .any ops l = [] → ∀ k, k < 14 → l.getD k false = true)
    (hQ : ∀ (s : Array Value) (t1 t2 : Tb) (b1 b2 : Nat) (w' : World), s.getD 14 undef = .pointer (some ⟨b1, 0, none⟩) → s.getD 15 undef = .pointer (some ⟨b2, 0, none⟩) → TbOk w' t1 → P1 t1 → TbOk w' t2 → P2 t2 →
      Blk w' b1 (tbV t1).toArray 26 → Blk w' b2 (tbV t2).toArray 26 → w0.heap.size ≤ b1 → w0.heap.size ≤ b2 → TS bt t w0 w' → Q .normal ⟨puts s slots12 a0.tmps, a0.defers⟩ w') :
    (Code.region id ops true).wp Try.prog Q a0 w0 := by
  have hrep : ∀ k, (Array.replicate ops.size false).getD k false = false := by
    intro k
    simp only [Array.getD_eq_getD_getElem?, Array.getElem?_replicate]
    split <;> rfl
  have hno : ∀ k {p : Prop}, (Array.replicate ops.size false).getD k false = true → p := fun k p h => by rw [hrep] at h; cases h
  refine wp_region_inv hm (SixInv a0 w0 bt t V P1 P2) ⟨by simp [hsz], rfl, rfl, fun _ _ => rfl, hT.on ((Below.refl _ _).drew), fun i _ h => hno i h, hno 4, hno 9, hno 10, hno 11, hno 12, hno 13, hno 10⟩ ?_
  intro l a w h
  constructor
  · intro hr
    have hall := hdone l h.size hr
    obtain ⟨t1, q1, q2, q3⟩ := h.one (hall 4 (by omega))
    obtain ⟨t2, r1, r2, r3⟩ := h.two (hall 9 (by omega))
    obtain ⟨b1, v1⟩ := h.var1 (hall 10 (by omega))
    obtain ⟨b2, v2⟩ := h.var2 (hall 11 (by omega))
    rw [hall 12 (by omega)] at v1
    rw [hall 13 (by omega)] at v2
    obtain ⟨t1', x1, x2⟩ := v1.2.2.2 rfl
    obtain ⟨t2', y1, y2⟩ := v2.2.2.2 rfl
    have x3 : tbV t1' = tbV t1 := by
      have := q1.symm.trans x1
      simp only [tbA, Value.agg.injEq] at this
      exact (congrArg Array.toList this).symm
    have y3 : tbV t2' = tbV t2 := by
      have := r1.symm.trans y1
      simp only [tbA, Value.agg.injEq] at this
      exact (congrArg Array.toList this).symm
    rw [x3] at x2
    rw [y3] at y2
    have := hQ a.tmps t1 t2 b1 b2 w v1.1 v2.1 q2 q3 r2 r3 x2 y2 v1.2.1 v2.2.1 h.held
    rw [← puts_of slots12 h.tsize h.other, ← h.defers] at this
    exact this
  · intro i hi
    have hnl : l.getD i false = false ∧ i < 14 := by
      have h1 := (mem_ready.1 hi).1
      obtain ⟨o, ho, _⟩ := (mem_ready.1 hi).2
      have h2 := (Array.getElem?_eq_some_iff.1 ho).1
      have : i < l.size := by rw [h.size]; omega
      simp only [Array.getD_eq_getD_getElem?, Array.getElem?_eq_getElem this, Option.getD_some] at h1 ⊢
      exact ⟨h1, by omega⟩
    obtain ⟨hnl, hi14⟩ := hnl
    by_cases hp : i ∈ pure8
    · exact hpure i hp _ a w h.held h.other (h.pure ha hp)
    · have hcase : i = 4 ∨ i = 9 ∨ i = 10 ∨ i = 11 ∨ i = 12 ∨ i = 13 := by
        simp only [pure8, List.mem_cons, List.not_mem_nil, or_false] at hp
        omega
      rcases hcase with rfl | rfl | rfl | rfl | rfl | rfl
      · have hl := e4 l hi
        exact hcall1 _ a w h.held (h.pures 0 (by decide) (hl 0 (by omega))) (h.pures 1 (by decide) (hl 1 (by omega))) (h.pures 2 (by decide) (hl 2 (by omega))) (h.pures 3 (by decide) (hl 3 (by omega)))
          (fun t1 w' hb h1 h2 => h.call1 ha hnl hb t1 h1 h2)
      · have hl := e9 l hi
        exact hcall2 _ a w h.held (h.pures 5 (by decide) (hl 5 (by omega) (by omega))) (h.pures 6 (by decide) (hl 6 (by omega) (by omega))) (h.pures 7 (by decide) (hl 7 (by omega) (by omega))) (h.pures 8 (by decide) (hl 8 (by omega) (by omega)))
          (fun t1 w' hb h1 h2 => h.call2 ha hnl hb t1 h1 h2)
      · exact halloc1 _ a w (h.alloc1 ha hnl)
      · exact halloc2 _ a w (h.alloc2 ha hnl)
      · obtain ⟨l4, l10⟩ := e12 l hi
        obtain ⟨t1, q1, _⟩ := h.one l4
        obtain ⟨b, hv⟩ := h.var1 l10
        rw [hnl] at hv
        exact hstore1 _ a w b t1 hv.1 q1 (hv.2.2.1 rfl) (h.store1 hbt hnl l4 l10 hv q1)
      · obtain ⟨l9, l11⟩ := e13 l hi
        obtain ⟨t1, q1, _⟩ := h.two l9
        obtain ⟨b, hv⟩ := h.var2 l11
        rw [hnl] at hv
        exact hstore2 _ a w b t1 hv.1 q1 (hv.2.2.1 rfl) (h.store2 hbt hnl l9 l11 hv q1)

end Go.Proofs.Ytadiocpcpjbjpaa
