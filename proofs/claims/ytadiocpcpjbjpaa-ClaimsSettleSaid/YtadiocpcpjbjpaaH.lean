import Derived.Test.YtadiocpcpjbjpaaG
import Derived.RangeFuncBox
import Derived.Maps.AppendAt
namespace Go.Proofs.Ytadiocpcpjbjpaa
open Go.RowKit

/-! ### Blocks known whole -/
def Blk (w : World) (b : Nat) (cs : Array Value) (T : TypeId) : Prop := w.heap[b]? = some (.cells cs T (0, 0))

theorem Blk.lt {w : World} {b : Nat} {cs : Array Value} {T : TypeId} (h : Blk w b cs T) : b < w.heap.size := (Array.getElem?_eq_some_iff.1 h).1
theorem Blk.cell {w : World} {b : Nat} {cs : Array Value} {T : TypeId} (h : Blk w b cs T) (j : Nat) : w.cell? ⟨b, j, none⟩ = cs[j]? := cell_of_row _ _ _ _ _ _ h
theorem Blk.frozen {w : World} {b : Nat} {cs : Array Value} {T : TypeId} (h : Blk w b cs T) (j : Nat) : w.frozen? ⟨b, j, none⟩ = false := frozen_of_row _ _ _ _ _ h
theorem Blk.below {n : Nat} {w w' : World} {b : Nat} {cs : Array Value} {T : TypeId} (h : Blk w b cs T) (hb : Below n w w') (hn : b < n) : Blk w' b cs T := (hb.block b hn).trans h
theorem Blk.alloc {w : World} {b : Nat} {cs : Array Value} {T : TypeId} (h : Blk w b cs T) (o : Obj) : Blk (w.alloc o) b cs T := (Below.heap_alloc w o b h.lt).trans h
theorem Blk.new (w : World) (cs : Array Value) (T : TypeId) : Blk (w.alloc (.cells cs T)) w.heap.size cs T := heap_new w _
theorem Blk.set {w : World} {b : Nat} {cs : Array Value} {T : TypeId} (h : Blk w b cs T) (j : Nat) (v : Value) : Blk (w.setCell ⟨b, j, none⟩ v) b (cs.setIfInBounds j v) T := heap_setCell_same w b j cs T v h
theorem Blk.other {w : World} {b b' j : Nat} {cs : Array Value} {T : TypeId} (h : Blk w b cs T) (hne : b ≠ b') (v : Value) : Blk (w.setCell ⟨b', j, none⟩ v) b cs T := (Below.heap_setCell _ _ _ _ hne).trans h
theorem Blk.grown {w w' : World} {row : Option Nat} {b : Nat} {cs : Array Value} {T : TypeId} (h : Blk w b cs T) (hg : w.grownBy w' row) (hne : some b ≠ row) : Blk w' b cs T := (hg.block b h.lt hne).trans h

theorem owns_below {w w' : World} {base : Nat} {e : TypeId} {size n m : Nat} {v : Value} {xs : List Value} (h : w.ownsRow base e size v n xs) (hb : Below m w w') (hm : w.heap.size ≤ m) : w'.ownsRow base e size v n xs := by
  rcases h with ⟨h1, h2 | ⟨g, cap, cur, hv, hg, hh, r1, r2, r3, r4⟩⟩
  · exact ⟨h1, .inl h2⟩
  · have hlt := (Array.getElem?_eq_some_iff.1 hh).1
    exact ⟨h1, .inr ⟨g, cap, cur, hv, hg, (hb.block g (by omega)).trans hh, r1, r2, r3, r4⟩⟩

theorem owns_set {w : World} {base b j : Nat} {u : Value} {e : TypeId} {size n : Nat} {v : Value} {xs : List Value} (h : w.ownsRow base e size v n xs) (hb : b < base) : (w.setCell ⟨b, j, none⟩ u).ownsRow base e size v n xs := by
  rcases h with ⟨h1, h2 | ⟨g, cap, cur, hv, hg, hh, r1, r2, r3, r4⟩⟩
  · exact ⟨h1, .inl h2⟩
  · exact ⟨h1, .inr ⟨g, cap, cur, hv, hg, (Below.heap_setCell _ _ _ _ (by simp; omega)).trans hh, r1, r2, r3, r4⟩⟩

/-- A row of the call's own is a slice that reads as its elements. -/
theorem owns_rows {w : World} {base : Nat} {e : TypeId} {size n : Nat} {v : Value} {xs : List Value} (h : w.ownsRow base e size v n xs) (css : List (List Value)) (hn : n = css.length) (hx : xs = css.flatten) (hk : ∀ cs ∈ css, cs.length = size) :
    Rows size w v css := by
  subst hn
  rcases h with ⟨h1, ⟨rfl, h2⟩ | ⟨g, cap, cur, rfl, hg, hh, r1, r2, r3, r4⟩⟩
  · have : css = [] := List.length_eq_zero_iff.1 h2
    subst this
    exact ⟨none, 0, rfl, Nat.le_refl _, Nat.zero_le _, hk, fun h => absurd rfl h⟩
  · refine ⟨some ⟨g, 0, none⟩, cap, rfl, r1, r2, hk, fun _ => ⟨g, 0, rfl, ?_⟩⟩
    intro i cs hi j x hj
    rw [cell_of_row _ _ _ _ _ _ hh]
    have hxs : xs[i * size + j]? = some x := by
      rw [hx]
      exact flatten_at hk hi hj
    rw [← r4] at hxs
    rw [List.getElem?_take] at hxs
    split at hxs
    · rw [Nat.zero_add]
      simpa using hxs
    · cases hxs
where
  flatten_at {css : List (List Value)} {k i j : Nat} {cs : List Value} {x : Value} (hk : ∀ cs ∈ css, cs.length = k) (hi : css[i]? = some cs) (hj : cs[j]? = some x) : css.flatten[i * k + j]? = some x := by
    induction css generalizing i with
    | nil => simp at hi
    | cons c r ih =>
      have hc : c.length = k := hk c (by simp)
      cases i with
      | zero =>
        simp only [List.getElem?_cons_zero, Option.some.injEq] at hi
        subst hi
        have hlt := (List.getElem?_eq_some_iff.1 hj).1
        rw [List.flatten_cons, Nat.zero_mul, Nat.zero_add, List.getElem?_append_left hlt]
        exact hj
      | succ i =>
        rw [List.flatten_cons, List.getElem?_append_right (by rw [hc, Nat.succ_mul]; omega), hc, show (i + 1) * k + j - k = i * k + j from by rw [Nat.succ_mul]; omega]
        exact ih (fun cs h => hk cs (by simp [h])) (by simpa using hi)

end Go.Proofs.Ytadiocpcpjbjpaa
