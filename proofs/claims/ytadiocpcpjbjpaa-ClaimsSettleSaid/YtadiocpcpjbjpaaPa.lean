import Derived.Test.YtadiocpcpjbjpaaX
namespace Go.Proofs.Ytadiocpcpjbjpaa
open Go.RowKit

/-! ### A region in any order: what each operation leaves -/
def dstOf (ops : Array Oper) (i : Nat) : Option Nat := (ops[i]?).bind (·.dst)
def depOf (ops : Array Oper) (i j : Nat) : Bool := match ops[i]? with
  | some o => o.after.any fun e => e.on == j && Region.binds .any e
  | none => false
def downB (ops : Array Oper) : Bool := (List.range ops.size).all fun i => match ops[i]? with
  | some o => o.after.all fun e => decide (e.on < i)
  | none => true
def fitB (ops : Array Oper) (n : Nat) : Bool := (List.range ops.size).all fun i => match dstOf ops i with
  | some d => decide (d < n)
  | none => true
/-- An operation writes no slot that another one's post speaks of, unless that one comes behind it. -/
def slB (ops : Array Oper) (sl : Nat → List Nat) : Bool := (List.range ops.size).all fun j => (List.range ops.size).all fun i => match dstOf ops i with
  | some d => decide (i = j) || !(sl j).contains d || depOf ops j i
  | none => true

/-- No operation writes the slot. -/
def otherB (ops : Array Oper) (j : Nat) : Bool := (List.range ops.size).all fun i => match dstOf ops i with
  | some d => d != j
  | none => true

/-- The slots that the operations write. -/
def dstsOf (ops : Array Oper) : List Nat := (List.range ops.size).filterMap (dstOf ops)
theorem otherB_of {ops : Array Oper} {j : Nat} (h : j ∉ dstsOf ops) : otherB ops j = true := by
  refine List.all_eq_true.2 fun i hi => ?_
  cases hd : dstOf ops i with
  | none => rfl
  | some d =>
    have : d ∈ dstsOf ops := List.mem_filterMap.2 ⟨i, hi, hd⟩
    simp only [bne_iff_ne]
    rintro rfl
    exact h this

def slot (t : Array Value) (d : Nat) : Value := t[d]?.getD undef
def up (o : Option Nat) (v : Value) (f : Nat → Value) : Nat → Value := match o with
  | none => f
  | some d => fun x => if x = d then v else f x

theorem eval_slot (a : Act) (d : Nat) : a.eval (.tmp d) = slot a.tmps d := by simp [Act.eval, slot, Array.getD_eq_getD_getElem?]

theorem slot_put (a : Act) (o : Option Nat) (v : Value) (h : ∀ d, o = some d → d < a.tmps.size) : slot (a.put o v).tmps = up o v (slot a.tmps) := by
  funext x
  cases o with
  | none => rfl
  | some d =>
    have hd := h d rfl
    simp only [slot, Act.put, up, Array.getElem?_setIfInBounds]
    by_cases e : d = x
    · subst e; simp [hd]
    · rw [if_neg e, if_neg (fun e' => e e'.symm)]

structure PInv (ops : Array Oper) (a0 : Act) (S : (Nat → Value) → World → Prop) (Post : Nat → (Nat → Value) → World → Prop) (eater : Nat → Nat) (l : Array Bool) (a : Act) (w : World) : Prop where
  size : l.size = ops.size
  defers : a.defers = a0.defers
  tsize : a.tmps.size = a0.tmps.size
  other : ∀ j, otherB ops j = true → a.tmps[j]? = a0.tmps[j]?
  held : S (slot a.tmps) w
  posts : ∀ i, i < ops.size → l.getD i false = true → l.getD (eater i) false = false → Post i (slot a.tmps) w
  closed : ∀ i j, l.getD i false = true → depOf ops i j = true → l.getD j false = true

theorem region_posts {P : Program} {ops : Array Oper} {id : Nat} {Q : Exit → Act → World → Prop} {a0 : Act} {w0 : World} (hm : P.follows .mixedOrders = true)
    (S : (Nat → Value) → World → Prop) (Post : Nat → (Nat → Value) → World → Prop) (sl : Nat → List Nat) (eater : Nat → Nat) (dl : List Nat) (hdl : dstsOf ops = dl)
    (hdown : downB ops = true) (hfit : fitB ops a0.tmps.size = true) (hsl : slB ops sl = true)
    (hpost : ∀ j f g w, (∀ x ∈ sl j, f x = g x) → Post j f w → Post j g w) (hS : S (slot a0.tmps) w0.drew)
    (hstep : ∀ i, i < ops.size → ∀ (K : Act → World → Prop) (a : Act) (w : World) (done : Nat → Bool), (∀ j, otherB ops j = true → slot a.tmps j = slot a0.tmps j) → S (slot a.tmps) w →
      (∀ j k, done j = true → depOf ops j k = true → done k = true) → done i = false → (∀ k, ops.size ≤ k → done k = false) → (∀ j, depOf ops i j = true → done j = true) →
      (∀ j, done j = true → done (eater j) = false → Post j (slot a.tmps) w) →
      (∀ v w', S (up (dstOf ops i) v (slot a.tmps)) w' → Post i (up (dstOf ops i) v (slot a.tmps)) w' → (∀ j, j < ops.size → done j = true → done (eater j) = false → eater j ≠ i → Post j (slot a.tmps) w → Post j (slot a.tmps) w') → K (a.put (dstOf ops i) v) w') → wpOp P ops Q i K a w)
    (hQ : ∀ (s : Array Value) w', S (slot s) w' → (∀ j, j < ops.size → ops.size ≤ eater j → Post j (slot s) w') → Q .normal ⟨puts s dl a0.tmps, a0.defers⟩ w') :
    (Code.region id ops true).wp P Q a0 w0 := by
  have hrep : ∀ k, (Array.replicate ops.size false).getD k false = false := by
    intro k
    simp only [Array.getD_eq_getD_getElem?, Array.getElem?_replicate]
    split <;> rfl
  have hdep : ∀ {i j : Nat}, depOf ops i j = true → ∃ o e, ops[i]? = some o ∧ e ∈ o.after ∧ e.on = j ∧ Region.binds .any e = true := by
    intro i j h
    unfold depOf at h
    cases ho : ops[i]? with
    | none => rw [ho] at h; cases h
    | some o =>
      rw [ho] at h
      simp only [Array.any_eq_true'] at h
      obtain ⟨e, he, h⟩ := h
      rw [Bool.and_eq_true, beq_iff_eq] at h
      exact ⟨o, e, rfl, he, h.1, h.2⟩
  have hlow : ∀ {i : Nat} {o : Oper}, ops[i]? = some o → ∀ e ∈ o.after, e.on < i := by
    intro i o ho e he
    have hi := (Array.getElem?_eq_some_iff.1 ho).1
    have := List.all_eq_true.1 hdown i (List.mem_range.2 hi)
    rw [ho] at this
    exact of_decide_eq_true (Array.all_eq_true_iff_forall_mem.1 this e he)
  refine wp_region_inv hm (PInv ops a0 S Post eater) ⟨by simp, rfl, rfl, fun _ _ => rfl, hS, (fun i _ h => by rw [hrep] at h; cases h), (fun i j h => by rw [hrep] at h; cases h)⟩ ?_
  intro l a w h
  constructor
  · intro hr
    have hall : ∀ k, k < ops.size → l.getD k false = true := by
      intro k
      induction k using Nat.strongRecOn with
      | ind k ih =>
        intro hk
        cases hlk : l.getD k false with
        | true => rfl
        | false =>
          exfalso
          have hmem : k ∈ ([] : List Nat) := by
            rw [← hr]
            refine mem_ready.2 ⟨?_, ops[k], Array.getElem?_eq_getElem hk, fun e he _ => ?_⟩
            · have : k < l.size := by rw [h.size]; exact hk
              simp only [Array.getD_eq_getD_getElem?, Array.getElem?_eq_getElem this, Option.getD_some] at hlk ⊢
              exact hlk
            · have := hlow (Array.getElem?_eq_getElem hk) e he
              exact ih e.on this (by omega)
          cases hmem
    have := hQ a.tmps w h.held (fun j hj he => h.posts j hj (hall j hj) (by
      simp only [Array.getD_eq_getD_getElem?]
      rw [Array.getElem?_eq_none (by rw [h.size]; exact he)]
      rfl))
    rw [← hdl, ← puts_of (dstsOf ops) h.tsize (fun i hi => h.other i (otherB_of hi)), ← h.defers] at this
    exact this
  · intro i hi
    obtain ⟨hd1, o, ho, he⟩ := mem_ready.1 hi
    have hi' : i < ops.size := (Array.getElem?_eq_some_iff.1 ho).1
    have hil : i < l.size := by rw [h.size]; exact hi'
    have hnl : l.getD i false = false := by
      simp only [Array.getD_eq_getD_getElem?, Array.getElem?_eq_getElem hil, Option.getD_some] at hd1 ⊢
      exact hd1
    have hfd : ∀ d, dstOf ops i = some d → d < a.tmps.size := by
      intro d hd
      have := List.all_eq_true.1 hfit i (List.mem_range.2 hi')
      rw [hd] at this
      rw [h.tsize]
      exact of_decide_eq_true this
    have hout : ∀ k, ops.size ≤ k → l.getD k false = false := fun k hk => by
      simp only [Array.getD_eq_getD_getElem?]
      rw [Array.getElem?_eq_none (by rw [h.size]; exact hk)]
      rfl
    refine hstep i hi' _ a w (fun k => l.getD k false) (fun j hj => ?_) h.held h.closed hnl hout ?_ (fun j hj hle => h.posts j (Nat.lt_of_not_le fun hx => by rw [hout j hx] at hj; cases hj) hj hle) ?_
    · unfold slot
      rw [h.other j hj]
    · intro j hj
      obtain ⟨o', e, ho', he', rfl, hb⟩ := hdep hj
      rw [ho] at ho'
      cases ho'
      exact he e he' hb
    · intro v w' hS' hP' hst
      have hsp := slot_put a (dstOf ops i) v hfd
      refine ⟨by simp [h.size], ?_, ?_, ?_, ?_, ?_, ?_⟩
      · cases dstOf ops i <;> exact h.defers
      · cases dstOf ops i with
        | none => exact h.tsize
        | some d => simp [Act.put, h.tsize]
      · intro j hj
        have hne := List.all_eq_true.1 hj i (List.mem_range.2 hi')
        cases hd : dstOf ops i with
        | none => exact h.other j hj
        | some d =>
          simp only [Act.put]
          rw [Array.getElem?_setIfInBounds, if_neg (by rintro rfl; rw [hd] at hne; simp at hne)]
          exact h.other j hj
      · rw [hsp]; exact hS'
      · intro j hj hl hle
        rw [hsp]
        by_cases e : j = i
        · subst e; exact hP'
        · rw [getB_other (fun x => e x.symm)] at hl
          have hei : eater j ≠ i := fun x => by rw [x, getB_same hil] at hle; cases hle
          rw [getB_other (fun x => hei x.symm)] at hle
          refine hpost j (slot a.tmps) _ w' ?_ (hst j hj hl hle hei (h.posts j hj hl hle))
          intro x hx
          cases hd : dstOf ops i with
          | none => rfl
          | some d =>
            simp only [up]
            by_cases hxd : x = d
            · exfalso
              subst hxd
              have := List.all_eq_true.1 (List.all_eq_true.1 hsl j (List.mem_range.2 hj)) i (List.mem_range.2 hi')
              rw [hd] at this
              simp only [Bool.or_eq_true, decide_eq_true_eq, Bool.not_eq_true', List.contains_eq_mem, decide_eq_false_iff_not] at this
              rcases this with (h1 | h1) | h1
              · exact e h1.symm
              · exact h1 hx
              · have := h.closed j i hl h1
                rw [hnl] at this
                cases this
            · rw [if_neg hxd]
      · intro j k hl hdp
        by_cases ek : k = i
        · subst ek; exact getB_same hil
        · rw [getB_other (fun x => ek x.symm)]
          by_cases e : j = i
          · subst e
            obtain ⟨o', e', ho', he', rfl, hb⟩ := hdep hdp
            rw [ho] at ho'
            cases ho'
            exact he e' he' hb
          · rw [getB_other (fun x => e x.symm)] at hl
            exact h.closed j k hl hdp

end Go.Proofs.Ytadiocpcpjbjpaa
