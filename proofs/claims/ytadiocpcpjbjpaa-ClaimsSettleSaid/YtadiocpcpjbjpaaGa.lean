import Derived.Test.YtadiocpcpjbjpaaAb
namespace Go.Proofs.Ytadiocpcpjbjpaa
open Go.RowKit

/-! ### What is told against a use, against a grant -/
def tellU (fr me : Int) (u : Us) (g : Gr) : Bool := decide (g.1 = u.1) && (g.2.1 != me) && decide (fr ≤ g.2.2.2) && (decide (g.2.2.1 < u.2.2) || ((g.2.2.1 == u.2.2) && decide (g.2.1 < me)))
def tellG (src : Int) (g : Gr) (u : Us) : Bool := decide (u.1 = g.1) && (src != g.2.1) && (decide (u.2.2 < g.2.2.1) || ((u.2.2 == g.2.2.1) && decide (src < g.2.1)))
def betU (fr me : Int) (u : Us) (n : Nr) : Bool := lateB fr n && n.told.gs.any (tellU fr me u)
def betG (fr : Int) (g : Gr) (n : Nr) : Bool := lateB fr n && n.told.us.any (tellG n.told.src g)

theorem betU_keep (fr me : Int) (u : Us) (near : List Nr) : near.any (betU fr me u) = !keepU fr me near u := by
  unfold keepU toldL latelyL
  rw [Bool.not_not, List.any_flatMap, List.any_map, List.any_filter]
  congr 1
  funext n
  simp only [betU, Function.comp, grantsOf, grantsL, List.any_map, List.any_filter, if_true]
  congr 2
  funext g
  simp only [tellU, beatsB, betterB]
  cases decide (g.1 = u.1) <;> cases decide (fr ≤ g.2.2.2) <;> cases (g.2.1 != me) <;> simp
theorem betG_keep (fr : Int) (g : Gr) (near : List Nr) : near.any (betG fr g) = !keepG fr near g := by
  unfold keepG toldL latelyL
  rw [Bool.not_not, List.any_flatMap, List.any_map, List.any_filter]
  congr 1
  funext n
  simp only [betG, Function.comp, usesOf, usesL, List.any_map, List.any_filter, Bool.false_eq_true, if_false]
  congr 2
  funext u
  simp only [tellG, beatsB, betterB]
  cases decide (u.1 = g.1) <;> cases (n.told.src != g.2.1) <;> simp

theorem any_take_succ {α : Type} {l : List α} {k : Nat} {x : α} (p : α → Bool) (hx : l[k]? = some x) : (l.take (k + 1)).any p = ((l.take k).any p || p x) := by
  rw [List.take_add_one, hx, List.any_append]
  simp
theorem any_take_all {α : Type} {l : List α} {k : Nat} (p : α → Bool) (hk : l.length ≤ k) : (l.take k).any p = l.any p := by
  rw [List.take_of_length_le hk]
theorem inner_succ {α : Type} {l : List α} {k : Nat} {x : α} (B L : Bool) (p : α → Bool) (hx : l[k]? = some x) : (B || (L && (l.take (k + 1)).any p)) = ((B || (L && (l.take k).any p)) || (L && p x)) := by
  rw [any_take_succ p hx]
  cases B <;> cases L <;> simp
theorem filter_at {α : Type} {p : α → Bool} : ∀ {l : List α} {i : Nat} {x : α}, l[i]? = some x → p x = true → (l.filter p)[((l.take i).filter p).length]? = some x
  | [], i, x, h, _ => by simp at h
  | y :: l, 0, x, h, hp => by
    simp only [List.getElem?_cons_zero, Option.some.injEq] at h
    subst h
    simp [hp]
  | y :: l, i + 1, x, h, hp => by
    simp only [List.getElem?_cons_succ] at h
    have ih := filter_at h hp
    by_cases hy : p y = true
    · simp [hy, ih]
    · simp [hy, ih]

end Go.Proofs.Ytadiocpcpjbjpaa
