import Derived.Test.YtadiocpcpjbjpaaAa
namespace Go.Proofs.Ytadiocpcpjbjpaa
open Go.RowKit

/-! ### A region in any order, with facts that hold at the start and are eaten -/
def slB2 (ops : Array Oper) (m : Nat) (sl : Nat → List Nat) : Bool := (List.range (ops.size + m)).all fun j => (List.range ops.size).all fun i => match dstOf ops i with
  | some d => decide (i = j) || !(sl j).contains d || depOf ops j i
  | none => true

structure PInv2 (ops : Array Oper) (m : Nat) (a0 : Act) (S : (Nat → Value) → World → Prop) (Post : Nat → (Nat → Value) → World → Prop) (eater : Nat → Nat) (l : Array Bool) (a : Act) (w : World) : Prop where
  size : l.size = ops.size
  defers : a.defers = a0.defers
  tsize : a.tmps.size = a0.tmps.size
  other : ∀ j, otherB ops j = true → a.tmps[j]? = a0.tmps[j]?
  held : S (slot a.tmps) w
  posts : ∀ i, i < ops.size + m → (i < ops.size → l.getD i false = true) → l.getD (eater i) false = false → Post i (slot a.tmps) w
  closed : ∀ i j, l.getD i false = true → depOf ops i j = true → l.getD j false = true

theorem region_posts2 {P : Program} {ops : Array Oper} {id : Nat} {Q : Exit → Act → World → Prop} {a0 : Act} {w0 : World} (hm : P.follows .mixedOrders = true)
    (S : (Nat → Value) → World → Prop) (Post : Nat → (Nat → Value) → World → Prop) (sl : Nat → List Nat) (eater : Nat → Nat) (dl : List Nat) (m : Nat) (hdl : dstsOf ops = dl)
    (hdown : downB ops = true) (hfit : fitB ops a0.tmps.size = true) (hsl : slB2 ops m sl = true)
    (hpost : ∀ j f g w, (∀ x ∈ sl j, f x = g x) → Post j f w → Post j g w) (hS : S (slot a0.tmps) w0.drew) (hS2 : ∀ j, ops.size ≤ j → j < ops.size + m → Post j (slot a0.tmps) w0.drew)
    (hstep : ∀ i, i < ops.size → ∀ (K : Act → World → Prop) (a : Act) (w : World) (done : Nat → Bool), (∀ j, otherB ops j = true → slot a.tmps j = slot a0.tmps j) → S (slot a.tmps) w →
      (∀ j k, done j = true → depOf ops j k = true → done k = true) → done i = false → (∀ k, ops.size ≤ k → done k = false) → (∀ j, depOf ops i j = true → done j = true) →
      (∀ j, j < ops.size + m → (j < ops.size → done j = true) → done (eater j) = false → Post j (slot a.tmps) w) →
      (∀ v w', S (up (dstOf ops i) v (slot a.tmps)) w' → Post i (up (dstOf ops i) v (slot a.tmps)) w' → (∀ j, j < ops.size + m → (j < ops.size → done j = true) → done (eater j) = false → eater j ≠ i → j ≠ i → Post j (slot a.tmps) w → Post j (slot a.tmps) w') → K (a.put (dstOf ops i) v) w') → wpOp P ops Q i K a w)
    (hQ : ∀ (s : Array Value) w', S (slot s) w' → (∀ j, j < ops.size + m → ops.size ≤ eater j → Post j (slot s) w') → Q .normal ⟨puts s dl a0.tmps, a0.defers⟩ w') :
    (Code.region id ops true).wp P Q a0 w0 := by
  have hrep : ∀ k, (Array.replicate ops.size false).getD k false = false := by
    intro k
    simp only [Array.getD_eq_getD_getElem?, Array.getElem?_replicate]
    split <;> rfl
  have hdep : ∀ {i j : Nat}, depOf ops i j = true → ∃ o e, ops[i]? = some o ∧ e ∈ o.after ∧ e.on = j ∧ Region.binds .any e = true := by
    intro i j h
    unfold depOf at h
    cases ho : ops[i]? with
    | none => rw [ho] at h; cases h
    | some o =>
      rw [ho] at h
      simp only [Array.any_eq_true'] at h
      obtain ⟨e, he, h⟩ := h
      rw [Bool.and_eq_true, beq_iff_eq] at h
      exact ⟨o, e, rfl, he, h.1, h.2⟩
  have hlow : ∀ {i : Nat} {o : Oper}, ops[i]? = some o → ∀ e ∈ o.after, e.on < i := by
    intro i o ho e he
    have hi := (Array.getElem?_eq_some_iff.1 ho).1
    have := List.all_eq_true.1 hdown i (List.mem_range.2 hi)
    rw [ho] at this
    exact of_decide_eq_true (Array.all_eq_true_iff_forall_mem.1 this e he)
  refine wp_region_inv hm (PInv2 ops m a0 S Post eater) ⟨by simp, rfl, rfl, fun _ _ => rfl, hS, (fun i hi h _ => hS2 i (Nat.le_of_not_lt fun hx => by have := h hx; rw [hrep] at this; cases this) hi), (fun i j h => by rw [hrep] at h; cases h)⟩ ?_
  intro l a w h
  constructor
  · intro hr
    have hall : ∀ k, k < ops.size → l.getD k false = true := by
      intro k
      induction k using Nat.strongRecOn with
      | ind k ih =>
        intro hk
        cases hlk : l.getD k false with
        | true => rfl
        | false =>
          exfalso
          have hmem : k ∈ ([] : List Nat) := by
            rw [← hr]
            refine mem_ready.2 ⟨?_, ops[k], Array.getElem?_eq_getElem hk, fun e he _ => ?_⟩
            · have : k < l.size := by rw [h.size]; exact hk
              simp only [Array.getD_eq_getD_getElem?, Array.getElem?_eq_getElem this, Option.getD_some] at hlk ⊢
              exact hlk
            · have := hlow (Array.getElem?_eq_getElem hk) e he
              exact ih e.on this (by omega)
          cases hmem
    have := hQ a.tmps w h.held (fun j hj he => h.posts j hj (fun hj => hall j hj) (by
      simp only [Array.getD_eq_getD_getElem?]
      rw [Array.getElem?_eq_none (by rw [h.size]; exact he)]
      rfl))
    rw [← hdl, ← puts_of (dstsOf ops) h.tsize (fun i hi => h.other i (otherB_of hi)), ← h.defers] at this
    exact this
  · intro i hi
    obtain ⟨hd1, o, ho, he⟩ := mem_ready.1 hi
    have hi' : i < ops.size := (Array.getElem?_eq_some_iff.1 ho).1
    have hil : i < l.size := by rw [h.size]; exact hi'
    have hnl : l.getD i false = false := by
      simp only [Array.getD_eq_getD_getElem?, Array.getElem?_eq_getElem hil, Option.getD_some] at hd1 ⊢
      exact hd1
    have hfd : ∀ d, dstOf ops i = some d → d < a.tmps.size := by
      intro d hd
      have := List.all_eq_true.1 hfit i (List.mem_range.2 hi')
      rw [hd] at this
      rw [h.tsize]
      exact of_decide_eq_true this
    have hout : ∀ k, ops.size ≤ k → l.getD k false = false := fun k hk => by
      simp only [Array.getD_eq_getD_getElem?]
      rw [Array.getElem?_eq_none (by rw [h.size]; exact hk)]
      rfl
    refine hstep i hi' _ a w (fun k => l.getD k false) (fun j hj => ?_) h.held h.closed hnl hout ?_ (fun j hj hd hle => h.posts j hj hd hle) ?_
    · unfold slot
      rw [h.other j hj]
    · intro j hj
      obtain ⟨o', e, ho', he', rfl, hb⟩ := hdep hj
      rw [ho] at ho'
      cases ho'
      exact he e he' hb
    · intro v w' hS' hP' hst
      have hsp := slot_put a (dstOf ops i) v hfd
      refine ⟨by simp [h.size], ?_, ?_, ?_, ?_, ?_, ?_⟩
      · cases dstOf ops i <;> exact h.defers
      · cases dstOf ops i with
        | none => exact h.tsize
        | some d => simp [Act.put, h.tsize]
      · intro j hj
        have hne := List.all_eq_true.1 hj i (List.mem_range.2 hi')
        cases hd : dstOf ops i with
        | none => exact h.other j hj
        | some d =>
          simp only [Act.put]
          rw [Array.getElem?_setIfInBounds, if_neg (by rintro rfl; rw [hd] at hne; simp at hne)]
          exact h.other j hj
      · rw [hsp]; exact hS'
      · intro j hj hl hle
        rw [hsp]
        by_cases e : j = i
        · subst e; exact hP'
        · have hl : j < ops.size → l.getD j false = true := fun hx => by have := hl hx; rwa [getB_other (fun x => e x.symm)] at this
          have hei : eater j ≠ i := fun x => by rw [x, getB_same hil] at hle; cases hle
          rw [getB_other (fun x => hei x.symm)] at hle
          refine hpost j (slot a.tmps) _ w' ?_ (hst j hj hl hle hei e (h.posts j hj hl hle))
          intro x hx
          cases hd : dstOf ops i with
          | none => rfl
          | some d =>
            simp only [up]
            by_cases hxd : x = d
            · exfalso
              subst hxd
              have := List.all_eq_true.1 (List.all_eq_true.1 hsl j (List.mem_range.2 hj)) i (List.mem_range.2 hi')
              rw [hd] at this
              simp only [Bool.or_eq_true, decide_eq_true_eq, Bool.not_eq_true', List.contains_eq_mem, decide_eq_false_iff_not] at this
              rcases this with (h1 | h1) | h1
              · exact e h1.symm
              · exact h1 hx
              · by_cases hjs : j < ops.size
                · have := h.closed j i (hl hjs) h1
                  rw [hnl] at this
                  cases this
                · unfold depOf at h1
                  rw [Array.getElem?_eq_none (by omega)] at h1
                  cases h1
            · rw [if_neg hxd]
      · intro j k hl hdp
        by_cases ek : k = i
        · subst ek; exact getB_same hil
        · rw [getB_other (fun x => ek x.symm)]
          by_cases e : j = i
          · subst e
            obtain ⟨o', e', ho', he', rfl, hb⟩ := hdep hdp
            rw [ho] at ho'
            cases ho'
            exact he e' he' hb
          · rw [getB_other (fun x => e x.symm)] at hl
            exact h.closed j k hl hdp

end Go.Proofs.Ytadiocpcpjbjpaa
