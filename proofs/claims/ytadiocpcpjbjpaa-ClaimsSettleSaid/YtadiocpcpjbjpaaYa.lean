import Derived.Test.YtadiocpcpjbjpaaY
namespace Go.Proofs.Ytadiocpcpjbjpaa
open Go.RowKit

theorem below_setRow {B b : Nat} {w : World} {ds : Array Value} (h : B ≤ b) : Below B w (w.setRow b ds) :=
  ⟨rfl, rfl, rfl, by simp [World.setRow], fun k hk => setRow_other (by omega)⟩

def slots12 : List Nat := [14, 15, 50, 51, 52, 53, 54, 55, 56, 57, 58, 59]
def pure8 : List Nat := [0, 1, 2, 3, 5, 6, 7, 8]

/-- A variable for a table: not yet stored (s = false), or stored. -/
def VarAt (w : World) (B : Nat) (v : Value) (tv : Value) (s : Bool) (b : Nat) : Prop :=
  v = .pointer (some ⟨b, 0, none⟩) ∧ B ≤ b ∧ (s = false → Blk w b nil3 26) ∧ (s = true → ∃ t : Tb, tv = tbA t ∧ Blk w b (tbV t).toArray 26)

theorem VarAt.on {w w' : World} {B b : Nat} {v tv : Value} {s : Bool} (h : VarAt w B v tv s b) (hb : b < w.heap.size → w'.heap[b]? = w.heap[b]?) : VarAt w' B v tv s b := by
  obtain ⟨h1, h2, h3, h4⟩ := h
  refine ⟨h1, h2, fun e => (hb (h3 e).lt).trans (h3 e), fun e => ?_⟩
  obtain ⟨t, h5, h6⟩ := h4 e
  exact ⟨t, h5, (hb h6.lt).trans h6⟩

theorem VarAt.lt {w : World} {B b : Nat} {v tv : Value} {s : Bool} (h : VarAt w B v tv s b) : b < w.heap.size := by
  cases s with
  | false => exact (h.2.2.1 rfl).lt
  | true => obtain ⟨t, _, h6⟩ := h.2.2.2 rfl; exact h6.lt

structure SixInv (a0 : Act) (w0 : World) (bt : Nat) (t : Tb) (V : Nat → Value) (P1 P2 : Tb → Prop) (l : Array Bool) (a : Act) (w : World) : Prop where
  size : l.size = 14
  defers : a.defers = a0.defers
  tsize : a.tmps.size = a0.tmps.size
  other : ∀ i, i ∉ slots12 → a.tmps[i]? = a0.tmps[i]?
  held : TS bt t w0 w
  pures : ∀ i, i ∈ pure8 → l.getD i false = true → a.tmps.getD (50 + i) undef = V i
  one : l.getD 4 false = true → ∃ t1, a.tmps.getD 54 undef = tbA t1 ∧ TbOk w t1 ∧ P1 t1
  two : l.getD 9 false = true → ∃ t2, a.tmps.getD 59 undef = tbA t2 ∧ TbOk w t2 ∧ P2 t2
  var1 : l.getD 10 false = true → ∃ b, VarAt w w0.heap.size (a.tmps.getD 14 undef) (a.tmps.getD 54 undef) (l.getD 12 false) b
  var2 : l.getD 11 false = true → ∃ b, VarAt w w0.heap.size (a.tmps.getD 15 undef) (a.tmps.getD 59 undef) (l.getD 13 false) b
  st1 : l.getD 12 false = true → l.getD 4 false = true ∧ l.getD 10 false = true
  st2 : l.getD 13 false = true → l.getD 9 false = true ∧ l.getD 11 false = true
  apart : l.getD 10 false = true → l.getD 11 false = true → a.tmps.getD 14 undef ≠ a.tmps.getD 15 undef

/-- A step that changes nothing in memory, and sets a slot that is none of the four. -/
theorem SixInv.pure {a0 : Act} {w0 : World} {bt : Nat} {t : Tb} {V : Nat → Value} {P1 P2 : Tb → Prop} {l : Array Bool} {a : Act} {w : World} (h : SixInv a0 w0 bt t V P1 P2 l a w) (ha : 59 < a0.tmps.size) {i : Nat} (hi : i ∈ pure8) :
    SixInv a0 w0 bt t V P1 P2 (l.setIfInBounds i true) (a.put (some (50 + i)) (V i)) w := by
  have hi' : i < 9 ∧ i ≠ 4 := by simp only [pure8, List.mem_cons, List.not_mem_nil, or_false] at hi; omega
  refine ⟨by simp [h.size], h.defers, by simp [Act.put, h.tsize], ?_, h.held, ?_, ?_, ?_, ?_, ?_, ?_, ?_, ?_⟩
  · intro j hj
    simp only [Act.put]
    rw [Array.getElem?_setIfInBounds, if_neg (by rintro rfl; apply hj; simp only [pure8, List.mem_cons, List.not_mem_nil, or_false] at hi; rcases hi with rfl | rfl | rfl | rfl | rfl | rfl | rfl | rfl <;> decide)]
    exact h.other j hj
  · intro j hj hl
    simp only [Act.put]
    by_cases e : i = j
    · subst e
      exact getD_put_same (by rw [h.tsize]; omega)
    · rw [getD_put_other (by omega)]
      rw [getB_other e] at hl
      exact h.pures j hj hl
  · intro hl
    rw [getB_other (by omega)] at hl
    simp only [Act.put]
    rw [getD_put_other (by omega)]
    exact h.one hl
  · intro hl
    rw [getB_other (by omega)] at hl
    simp only [Act.put]
    rw [getD_put_other (by omega)]
    exact h.two hl
  · intro hl
    rw [getB_other (by omega)] at hl ⊢
    simp only [Act.put]
    rw [getD_put_other (by omega), getD_put_other (by omega)]
    exact h.var1 hl
  · intro hl
    rw [getB_other (by omega)] at hl ⊢
    simp only [Act.put]
    rw [getD_put_other (by omega), getD_put_other (by omega)]
    exact h.var2 hl
  · intro hl
    rw [getB_other (by omega)] at hl ⊢
    rw [getB_other (by omega)]
    exact h.st1 hl
  · intro hl
    rw [getB_other (by omega)] at hl
    by_cases e : i = 9
    · omega
    · rw [getB_other e, getB_other (by omega)]
      exact h.st2 hl
  · intro hl hl2
    rw [getB_other (by omega)] at hl hl2
    simp only [Act.put]
    rw [getD_put_other (by omega), getD_put_other (by omega)]
    exact h.apart hl hl2

theorem SixInv.call1 {a0 : Act} {w0 : World} {bt : Nat} {t : Tb} {V : Nat → Value} {P1 P2 : Tb → Prop} {l : Array Bool} {a : Act} {w w' : World} (h : SixInv a0 w0 bt t V P1 P2 l a w) (ha : 59 < a0.tmps.size) (hl0 : l.getD 4 false = false)
    (hb : Below w.heap.size w w') (t1 : Tb) (h1 : TbOk w' t1) (hp : P1 t1) : SixInv a0 w0 bt t V P1 P2 (l.setIfInBounds 4 true) (a.put (some 54) (tbA t1)) w' := by
  have hs : l.getD 12 false = false := by
    cases e : l.getD 12 false with
    | false => rfl
    | true => rw [(h.st1 e).1] at hl0; cases hl0
  refine ⟨by simp [h.size], h.defers, by simp [Act.put, h.tsize], ?_, h.held.on hb, ?_, ?_, ?_, ?_, ?_, ?_, ?_, ?_⟩
  · intro j hj
    simp only [Act.put]
    rw [Array.getElem?_setIfInBounds, if_neg (by rintro rfl; apply hj; decide)]
    exact h.other j hj
  · intro j hj hl
    have hj' : j < 9 ∧ j ≠ 4 := by simp only [pure8, List.mem_cons, List.not_mem_nil, or_false] at hj; omega
    simp only [Act.put]
    rw [getD_put_other (by omega)]
    rw [getB_other (by omega)] at hl
    exact h.pures j hj hl
  · intro _
    simp only [Act.put]
    rw [getD_put_same (by rw [h.tsize]; omega)]
    exact ⟨t1, rfl, h1, hp⟩
  · intro hl
    rw [getB_other (by omega)] at hl
    simp only [Act.put]
    rw [getD_put_other (by omega)]
    obtain ⟨t2, g1, g2, g3⟩ := h.two hl
    exact ⟨t2, g1, g2.keep (KeepInt.of hb), g3⟩
  · intro hl
    rw [getB_other (by omega)] at hl ⊢
    simp only [Act.put]
    rw [getD_put_other (by omega), hs]
    obtain ⟨b, hv⟩ := h.var1 hl
    rw [hs] at hv
    exact ⟨b, hv.1, hv.2.1, fun _ => (hv.2.2.1 rfl).below hb hv.lt, fun e => by cases e⟩
  · intro hl
    rw [getB_other (by omega)] at hl ⊢
    simp only [Act.put]
    rw [getD_put_other (by omega), getD_put_other (by omega)]
    obtain ⟨b, hv⟩ := h.var2 hl
    exact ⟨b, hv.on (hb.block b)⟩
  · intro hl
    rw [getB_other (by omega), hs] at hl
    cases hl
  · intro hl
    rw [getB_other (by omega)] at hl
    rw [getB_other (by omega), getB_other (by omega)]
    exact h.st2 hl
  · intro hl hl2
    rw [getB_other (by omega)] at hl hl2
    simp only [Act.put]
    rw [getD_put_other (by omega), getD_put_other (by omega)]
    exact h.apart hl hl2

theorem SixInv.call2 {a0 : Act} {w0 : World} {bt : Nat} {t : Tb} {V : Nat → Value} {P1 P2 : Tb → Prop} {l : Array Bool} {a : Act} {w w' : World} (h : SixInv a0 w0 bt t V P1 P2 l a w) (ha : 59 < a0.tmps.size) (hl0 : l.getD 9 false = false)
    (hb : Below w.heap.size w w') (t1 : Tb) (h1 : TbOk w' t1) (hp : P2 t1) : SixInv a0 w0 bt t V P1 P2 (l.setIfInBounds 9 true) (a.put (some 59) (tbA t1)) w' := by
  have hs : l.getD 13 false = false := by
    cases e : l.getD 13 false with
    | false => rfl
    | true => rw [(h.st2 e).1] at hl0; cases hl0
  refine ⟨by simp [h.size], h.defers, by simp [Act.put, h.tsize], ?_, h.held.on hb, ?_, ?_, ?_, ?_, ?_, ?_, ?_, ?_⟩
  · intro j hj
    simp only [Act.put]
    rw [Array.getElem?_setIfInBounds, if_neg (by rintro rfl; apply hj; decide)]
    exact h.other j hj
  · intro j hj hl
    have hj' : j < 9 ∧ j ≠ 4 := by simp only [pure8, List.mem_cons, List.not_mem_nil, or_false] at hj; omega
    simp only [Act.put]
    rw [getD_put_other (by omega)]
    rw [getB_other (by omega)] at hl
    exact h.pures j hj hl
  · intro hl
    rw [getB_other (by omega)] at hl
    simp only [Act.put]
    rw [getD_put_other (by omega)]
    obtain ⟨t2, g1, g2, g3⟩ := h.one hl
    exact ⟨t2, g1, g2.keep (KeepInt.of hb), g3⟩
  · intro _
    simp only [Act.put]
    rw [getD_put_same (by rw [h.tsize]; omega)]
    exact ⟨t1, rfl, h1, hp⟩
  · intro hl
    rw [getB_other (by omega)] at hl ⊢
    simp only [Act.put]
    rw [getD_put_other (by omega), getD_put_other (by omega)]
    obtain ⟨b, hv⟩ := h.var1 hl
    exact ⟨b, hv.on (hb.block b)⟩
  · intro hl
    rw [getB_other (by omega)] at hl ⊢
    simp only [Act.put]
    rw [getD_put_other (by omega), hs]
    obtain ⟨b, hv⟩ := h.var2 hl
    rw [hs] at hv
    exact ⟨b, hv.1, hv.2.1, fun _ => (hv.2.2.1 rfl).below hb hv.lt, fun e => by cases e⟩
  · intro hl
    rw [getB_other (by omega)] at hl
    rw [getB_other (by omega), getB_other (by omega)]
    exact h.st1 hl
  · intro hl
    rw [getB_other (by omega), hs] at hl
    cases hl
  · intro hl hl2
    rw [getB_other (by omega)] at hl hl2
    simp only [Act.put]
    rw [getD_put_other (by omega), getD_put_other (by omega)]
    exact h.apart hl hl2

theorem SixInv.alloc1 {a0 : Act} {w0 : World} {bt : Nat} {t : Tb} {V : Nat → Value} {P1 P2 : Tb → Prop} {l : Array Bool} {a : Act} {w : World} (h : SixInv a0 w0 bt t V P1 P2 l a w) (ha : 59 < a0.tmps.size) (hl0 : l.getD 10 false = false) :
    SixInv a0 w0 bt t V P1 P2 (l.setIfInBounds 10 true) (a.put (some 14) (.pointer (some ⟨w.heap.size, 0, none⟩))) (w.alloc (.cells nil3 26)) := by
  have hb : Below w.heap.size w (w.alloc (.cells nil3 26)) := (Below.refl _ _).alloc (Nat.le_refl _) _
  have hs : l.getD 12 false = false := by
    cases e : l.getD 12 false with
    | false => rfl
    | true => rw [(h.st1 e).2] at hl0; cases hl0
  refine ⟨by simp [h.size], h.defers, by simp [Act.put, h.tsize], ?_, h.held.on hb, ?_, ?_, ?_, ?_, ?_, ?_, ?_, ?_⟩
  · intro j hj
    simp only [Act.put]
    rw [Array.getElem?_setIfInBounds, if_neg (by rintro rfl; apply hj; decide)]
    exact h.other j hj
  · intro j hj hl
    have hj' : j < 9 ∧ j ≠ 4 := by simp only [pure8, List.mem_cons, List.not_mem_nil, or_false] at hj; omega
    simp only [Act.put]
    rw [getD_put_other (by omega)]
    rw [getB_other (by omega)] at hl
    exact h.pures j hj hl
  · intro hl
    rw [getB_other (by omega)] at hl
    simp only [Act.put]
    rw [getD_put_other (by omega)]
    obtain ⟨t2, g1, g2, g3⟩ := h.one hl
    exact ⟨t2, g1, g2.keep (KeepInt.of hb), g3⟩
  · intro hl
    rw [getB_other (by omega)] at hl
    simp only [Act.put]
    rw [getD_put_other (by omega)]
    obtain ⟨t2, g1, g2, g3⟩ := h.two hl
    exact ⟨t2, g1, g2.keep (KeepInt.of hb), g3⟩
  · intro _
    rw [getB_other (by omega)]
    simp only [Act.put]
    rw [getD_put_same (by rw [h.tsize]; omega), getD_put_other (by omega), hs]
    exact ⟨w.heap.size, rfl, h.held.2.2.2.size, fun _ => Blk.new w nil3 26, fun e => by cases e⟩
  · intro hl
    rw [getB_other (by omega)] at hl ⊢
    simp only [Act.put]
    rw [getD_put_other (by omega), getD_put_other (by omega)]
    obtain ⟨b, hv⟩ := h.var2 hl
    exact ⟨b, hv.on (hb.block b)⟩
  · intro hl
    rw [getB_other (by omega), hs] at hl
    cases hl
  · intro hl
    rw [getB_other (by omega)] at hl
    rw [getB_other (by omega), getB_other (by omega)]
    exact h.st2 hl
  · intro hl hl2
    simp only [Act.put]
    rw [getB_other (by omega)] at hl2
    obtain ⟨b, hv⟩ := h.var2 hl2
    have hlt := hv.lt
    rw [getD_put_same (by rw [h.tsize]; omega), getD_put_other (by omega), hv.1]
    intro e
    simp only [Value.pointer.injEq, Option.some.injEq, Addr.mk.injEq, and_true] at e
    omega

theorem SixInv.alloc2 {a0 : Act} {w0 : World} {bt : Nat} {t : Tb} {V : Nat → Value} {P1 P2 : Tb → Prop} {l : Array Bool} {a : Act} {w : World} (h : SixInv a0 w0 bt t V P1 P2 l a w) (ha : 59 < a0.tmps.size) (hl0 : l.getD 11 false = false) :
    SixInv a0 w0 bt t V P1 P2 (l.setIfInBounds 11 true) (a.put (some 15) (.pointer (some ⟨w.heap.size, 0, none⟩))) (w.alloc (.cells nil3 26)) := by
  have hb : Below w.heap.size w (w.alloc (.cells nil3 26)) := (Below.refl _ _).alloc (Nat.le_refl _) _
  have hs : l.getD 13 false = false := by
    cases e : l.getD 13 false with
    | false => rfl
    | true => rw [(h.st2 e).2] at hl0; cases hl0
  refine ⟨by simp [h.size], h.defers, by simp [Act.put, h.tsize], ?_, h.held.on hb, ?_, ?_, ?_, ?_, ?_, ?_, ?_, ?_⟩
  · intro j hj
    simp only [Act.put]
    rw [Array.getElem?_setIfInBounds, if_neg (by rintro rfl; apply hj; decide)]
    exact h.other j hj
  · intro j hj hl
    have hj' : j < 9 ∧ j ≠ 4 := by simp only [pure8, List.mem_cons, List.not_mem_nil, or_false] at hj; omega
    simp only [Act.put]
    rw [getD_put_other (by omega)]
    rw [getB_other (by omega)] at hl
    exact h.pures j hj hl
  · intro hl
    rw [getB_other (by omega)] at hl
    simp only [Act.put]
    rw [getD_put_other (by omega)]
    obtain ⟨t2, g1, g2, g3⟩ := h.one hl
    exact ⟨t2, g1, g2.keep (KeepInt.of hb), g3⟩
  · intro hl
    rw [getB_other (by omega)] at hl
    simp only [Act.put]
    rw [getD_put_other (by omega)]
    obtain ⟨t2, g1, g2, g3⟩ := h.two hl
    exact ⟨t2, g1, g2.keep (KeepInt.of hb), g3⟩
  · intro hl
    rw [getB_other (by omega)] at hl ⊢
    simp only [Act.put]
    rw [getD_put_other (by omega), getD_put_other (by omega)]
    obtain ⟨b, hv⟩ := h.var1 hl
    exact ⟨b, hv.on (hb.block b)⟩
  · intro _
    rw [getB_other (by omega)]
    simp only [Act.put]
    rw [getD_put_same (by rw [h.tsize]; omega), getD_put_other (by omega), hs]
    exact ⟨w.heap.size, rfl, h.held.2.2.2.size, fun _ => Blk.new w nil3 26, fun e => by cases e⟩
  · intro hl
    rw [getB_other (by omega)] at hl
    rw [getB_other (by omega), getB_other (by omega)]
    exact h.st1 hl
  · intro hl
    rw [getB_other (by omega), hs] at hl
    cases hl
  · intro hl hl2
    simp only [Act.put]
    rw [getB_other (by omega)] at hl
    obtain ⟨b, hv⟩ := h.var1 hl
    have hlt := hv.lt
    rw [getD_put_same (by rw [h.tsize]; omega), getD_put_other (by omega), hv.1]
    intro e
    simp only [Value.pointer.injEq, Option.some.injEq, Addr.mk.injEq, and_true] at e
    omega

theorem SixInv.store1 {a0 : Act} {w0 : World} {bt : Nat} {t : Tb} {V : Nat → Value} {P1 P2 : Tb → Prop} {l : Array Bool} {a : Act} {w : World} (h : SixInv a0 w0 bt t V P1 P2 l a w) (hbt : bt < w0.heap.size) (_ : l.getD 12 false = false)
    (hc : l.getD 4 false = true) (hv0 : l.getD 10 false = true) {b : Nat} (hv : VarAt w w0.heap.size (a.tmps.getD 14 undef) (a.tmps.getD 54 undef) false b) {t1 : Tb} (ht1 : a.tmps.getD 54 undef = tbA t1) :
    SixInv a0 w0 bt t V P1 P2 (l.setIfInBounds 12 true) a (w.setRow b (tbV t1).toArray) := by
  have hblk := hv.2.2.1 rfl
  have hki : KeepInt w (w.setRow b (tbV t1).toArray) := KeepInt.setRow _ hblk
  have hge := hv.2.1
  have hcell : ∀ j, (w.setRow b (tbV t1).toArray).cell? ⟨bt, j, none⟩ = w.cell? ⟨bt, j, none⟩ := fun j => World.cell?_of_block (setRow_other (by show bt ≠ b; omega))
  obtain ⟨g0, g1, g2, g3⟩ := h.held
  refine ⟨by simp [h.size], h.defers, h.tsize, h.other, ⟨(hcell 0).trans g0, (hcell 1).trans g1, (hcell 2).trans g2, g3.trans (below_setRow hge)⟩, ?_, ?_, ?_, ?_, ?_, ?_, ?_, ?_⟩
  · intro j hj hl
    have hj' : j < 9 ∧ j ≠ 4 := by simp only [pure8, List.mem_cons, List.not_mem_nil, or_false] at hj; omega
    rw [getB_other (by omega)] at hl
    exact h.pures j hj hl
  · intro hl
    rw [getB_other (by omega)] at hl
    obtain ⟨t2, q1, q2, q3⟩ := h.one hl
    exact ⟨t2, q1, q2.keep hki, q3⟩
  · intro hl
    rw [getB_other (by omega)] at hl
    obtain ⟨t2, q1, q2, q3⟩ := h.two hl
    exact ⟨t2, q1, q2.keep hki, q3⟩
  · intro _
    rw [getB_same (by rw [h.size]; omega)]
    exact ⟨b, hv.1, hge, fun e => (by cases e), fun _ => ⟨t1, ht1, setRow_heap hblk⟩⟩
  · intro hl
    rw [getB_other (by omega)] at hl ⊢
    obtain ⟨b2, hv2⟩ := h.var2 hl
    have hap := h.apart hv0 hl
    have hne : b2 ≠ b := by
      rintro rfl
      exact hap (hv.1.trans hv2.1.symm)
    exact ⟨b2, hv2.on (fun _ => setRow_other hne)⟩
  · intro _
    rw [getB_other (by omega), getB_other (by omega)]
    exact ⟨hc, hv0⟩
  · intro hl
    rw [getB_other (by omega)] at hl
    rw [getB_other (by omega), getB_other (by omega)]
    exact h.st2 hl
  · intro hl hl2
    rw [getB_other (by omega)] at hl hl2
    exact h.apart hl hl2

theorem SixInv.store2 {a0 : Act} {w0 : World} {bt : Nat} {t : Tb} {V : Nat → Value} {P1 P2 : Tb → Prop} {l : Array Bool} {a : Act} {w : World} (h : SixInv a0 w0 bt t V P1 P2 l a w) (hbt : bt < w0.heap.size) (_ : l.getD 13 false = false)
    (hc : l.getD 9 false = true) (hv0 : l.getD 11 false = true) {b : Nat} (hv : VarAt w w0.heap.size (a.tmps.getD 15 undef) (a.tmps.getD 59 undef) false b) {t1 : Tb} (ht1 : a.tmps.getD 59 undef = tbA t1) :
    SixInv a0 w0 bt t V P1 P2 (l.setIfInBounds 13 true) a (w.setRow b (tbV t1).toArray) := by
  have hblk := hv.2.2.1 rfl
  have hki : KeepInt w (w.setRow b (tbV t1).toArray) := KeepInt.setRow _ hblk
  have hge := hv.2.1
  have hcell : ∀ j, (w.setRow b (tbV t1).toArray).cell? ⟨bt, j, none⟩ = w.cell? ⟨bt, j, none⟩ := fun j => World.cell?_of_block (setRow_other (by show bt ≠ b; omega))
  obtain ⟨g0, g1, g2, g3⟩ := h.held
  refine ⟨by simp [h.size], h.defers, h.tsize, h.other, ⟨(hcell 0).trans g0, (hcell 1).trans g1, (hcell 2).trans g2, g3.trans (below_setRow hge)⟩, ?_, ?_, ?_, ?_, ?_, ?_, ?_, ?_⟩
  · intro j hj hl
    have hj' : j < 9 ∧ j ≠ 4 := by simp only [pure8, List.mem_cons, List.not_mem_nil, or_false] at hj; omega
    rw [getB_other (by omega)] at hl
    exact h.pures j hj hl
  · intro hl
    rw [getB_other (by omega)] at hl
    obtain ⟨t2, q1, q2, q3⟩ := h.one hl
    exact ⟨t2, q1, q2.keep hki, q3⟩
  · intro hl
    rw [getB_other (by omega)] at hl
    obtain ⟨t2, q1, q2, q3⟩ := h.two hl
    exact ⟨t2, q1, q2.keep hki, q3⟩
  · intro hl
    rw [getB_other (by omega)] at hl ⊢
    obtain ⟨b2, hv2⟩ := h.var1 hl
    have hap := h.apart hl hv0
    have hne : b2 ≠ b := by
      rintro rfl
      exact hap (hv2.1.trans hv.1.symm)
    exact ⟨b2, hv2.on (fun _ => setRow_other hne)⟩
  · intro _
    rw [getB_same (by rw [h.size]; omega)]
    exact ⟨b, hv.1, hge, fun e => (by cases e), fun _ => ⟨t1, ht1, setRow_heap hblk⟩⟩
  · intro hl
    rw [getB_other (by omega)] at hl
    rw [getB_other (by omega), getB_other (by omega)]
    exact h.st1 hl
  · intro _
    rw [getB_other (by omega), getB_other (by omega)]
    exact ⟨hc, hv0⟩
  · intro hl hl2
    rw [getB_other (by omega)] at hl hl2
    exact h.apart hl hl2

end Go.Proofs.Ytadiocpcpjbjpaa
