import Derived.Test.YtadiocpcpjbjpaaSa
namespace Go.Proofs.Ytadiocpcpjbjpaa
open Go.RowKit

/-! ### Rows made symmetric -/
def atB (hs : List (List Bool)) (i k : Nat) : Bool := match hs[i]? with
  | some row => row[k]?.getD false
  | none => false
def partB (hs : List (List Bool)) (i0 k0 a b : Nat) : Bool :=
  if b < a then (if a < i0 ∨ (a = i0 ∧ b < k0) then atB hs a b else false) else if a < b then (if b < i0 ∨ (b = i0 ∧ a < k0) then atB hs b a else false) else false
def symB (hs : List (List Bool)) (a b : Nat) : Bool := if b < a then atB hs a b else if a < b then atB hs b a else false
def symL (hs : List (List Bool)) (n : Nat) : List (List Bool) := (List.range n).map fun a => (List.range n).map fun b => symB hs a b
def rowV (M : Nat → Nat → Bool) (n a : Nat) : Array Value := ((List.range n).map fun b => Value.bool (M a b)).toArray
def outV (g n i : Nat) : Array Value := ((List.range n).map fun j => if j < i then Value.slice (some ⟨g + 1 + j, 0, none⟩) n n else Value.slice none 0 0).toArray

theorem rowV_get {M : Nat → Nat → Bool} {n a b : Nat} (h : b < n) : (rowV M n a)[b]? = some (.bool (M a b)) := by
  simp [rowV, h]
theorem outV_get {g n i j : Nat} (h : j < n) : (outV g n i)[j]? = some (if j < i then Value.slice (some ⟨g + 1 + j, 0, none⟩) n n else Value.slice none 0 0) := by
  simp [outV, h]
theorem rowV_congr {M M' : Nat → Nat → Bool} {n a : Nat} (h : ∀ b, b < n → M a b = M' a b) : rowV M n a = rowV M' n a := by
  unfold rowV
  congr 1
  exact List.map_congr_left fun b hb => by rw [h b (List.mem_range.1 hb)]
theorem rowV_set {M M' : Nat → Nat → Bool} {n a b : Nat} {v : Bool} (h1 : M' a b = v) (h2 : ∀ c, c ≠ b → M' a c = M a c) : (rowV M n a).setIfInBounds b (.bool v) = rowV M' n a := by
  apply Array.ext_getElem?
  intro c
  rw [Array.getElem?_setIfInBounds]
  by_cases hb : b = c
  · subst hb
    rw [if_pos rfl]
    by_cases hn : b < n
    · rw [if_pos (by simpa [rowV] using hn), rowV_get hn, h1]
    · rw [if_neg (by simpa [rowV] using hn)]
      simp [rowV, hn]
  · rw [if_neg hb]
    by_cases hn : c < n
    · rw [rowV_get hn, rowV_get hn, h2 c (fun e => hb e.symm)]
    · simp [rowV, hn]
theorem rowV_false (n a : Nat) : (Array.replicate n (Value.bool false)) = rowV (fun _ _ => false) n a := by
  apply Array.ext_getElem?
  intro c
  simp [rowV, Array.getElem?_replicate]
  by_cases h : c < n <;> simp [h]
theorem outV_zero (g n : Nat) : (Array.replicate n (Value.slice none 0 0)) = outV g n 0 := by
  apply Array.ext_getElem?
  intro c
  simp [outV, Array.getElem?_replicate]
  by_cases h : c < n <;> simp [h]
theorem outV_set {g n i : Nat} : (outV g n i).setIfInBounds i (.slice (some ⟨g + 1 + i, 0, none⟩) n n) = outV g n (i + 1) := by
  apply Array.ext_getElem?
  intro c
  rw [Array.getElem?_setIfInBounds]
  by_cases hb : i = c
  · subst hb
    rw [if_pos rfl]
    by_cases hn : i < n
    · rw [if_pos (by simpa [outV] using hn), outV_get hn, if_pos (by omega)]
    · rw [if_neg (by simpa [outV] using hn)]
      simp [outV, hn]
  · rw [if_neg hb]
    by_cases hn : c < n
    · rw [outV_get hn, outV_get hn]
      by_cases hc : c < i
      · rw [if_pos hc, if_pos (by omega)]
      · rw [if_neg hc, if_neg (by omega)]
    · simp [outV, hn]

theorem part_next {hs : List (List Bool)} {i k a b : Nat} (hki : k < i) : partB hs i (k + 1) a b = if (a = i ∧ b = k) ∨ (a = k ∧ b = i) then atB hs i k else partB hs i k a b := by
  unfold partB
  by_cases h1 : a = i ∧ b = k
  · obtain ⟨rfl, rfl⟩ := h1
    rw [if_pos hki, if_pos (.inr ⟨rfl, by omega⟩), if_pos (.inl ⟨rfl, rfl⟩)]
  · by_cases h2 : a = k ∧ b = i
    · obtain ⟨rfl, rfl⟩ := h2
      rw [if_neg (by omega), if_pos hki, if_pos (.inr ⟨rfl, by omega⟩), if_pos (.inr ⟨rfl, rfl⟩)]
    · have hne : ¬ ((a = i ∧ b = k) ∨ (a = k ∧ b = i)) := fun h => Or.elim h h1 h2
      rw [if_neg hne]
      by_cases h3 : b < a
      · rw [if_pos h3, if_pos h3]
        by_cases h4 : a < i ∨ (a = i ∧ b < k)
        · rw [if_pos h4, if_pos (by omega)]
        · rw [if_neg h4, if_neg (by omega)]
      · rw [if_neg h3, if_neg h3]
        by_cases h5 : a < b
        · rw [if_pos h5, if_pos h5]
          by_cases h4 : b < i ∨ (b = i ∧ a < k)
          · rw [if_pos h4, if_pos (by omega)]
          · rw [if_neg h4, if_neg (by omega)]
        · rw [if_neg h5, if_neg h5]
theorem part_row {hs : List (List Bool)} {i a b : Nat} : partB hs i i a b = partB hs (i + 1) 0 a b := by
  unfold partB
  by_cases h3 : b < a
  · rw [if_pos h3, if_pos h3]
    by_cases h4 : a < i + 1
    · rw [if_pos (by omega), if_pos (.inl h4)]
    · rw [if_neg (by omega), if_neg (by omega)]
  · rw [if_neg h3, if_neg h3]
    by_cases h5 : a < b
    · rw [if_pos h5, if_pos h5]
      by_cases h4 : b < i + 1
      · rw [if_pos (by omega), if_pos (.inl h4)]
      · rw [if_neg (by omega), if_neg (by omega)]
    · rw [if_neg h5, if_neg h5]
theorem part_all {hs : List (List Bool)} {n a b : Nat} (ha : a < n) (hb : b < n) : partB hs n 0 a b = symB hs a b := by
  unfold partB symB
  by_cases h3 : b < a
  · rw [if_pos h3, if_pos h3, if_pos (.inl ha)]
  · rw [if_neg h3, if_neg h3]
    by_cases h5 : a < b
    · rw [if_pos h5, if_pos h5, if_pos (.inl hb)]
    · rw [if_neg h5, if_neg h5]
theorem part_none {hs : List (List Bool)} {a b : Nat} : partB hs 0 0 a b = false := by
  unfold partB
  by_cases h3 : b < a
  · rw [if_pos h3, if_neg (by omega)]
  · rw [if_neg h3]
    by_cases h5 : a < b
    · rw [if_pos h5, if_neg (by omega)]
    · rw [if_neg h5]

/-- The matrix in memory. -/
def MatAt (w0 : World) (g n : Nat) (M : Nat → Nat → Bool) (w : World) : Prop :=
  Blk w g (outV g n n) 49 ∧ (∀ a, a < n → Blk w (g + 1 + a) (rowV M n a) 4) ∧ Below w0.heap.size w0 w ∧ w0.heap.size ≤ g

theorem MatAt.hears {w0 w : World} {g n : Nat} {hs : List (List Bool)} (h : MatAt w0 g n (symB hs) w) (hn : n ≤ maxLen) : HearsOk w (.slice (some ⟨g, 0, none⟩) n n) (symL hs n) := by
  obtain ⟨h1, h2, _⟩ := h
  refine ⟨(List.range n).map fun a => (some ⟨g + 1 + a, 0, none⟩, n), ?_, by simp [symL], ?_⟩
  · refine ⟨_, n, by simp [symL], by simp [symL], hn, ?_, fun _ => ⟨g, 0, rfl, fun i cs hi j x hj => ?_⟩⟩
    · intro cs hc; obtain ⟨x, _, rfl⟩ := List.mem_map.1 hc; rfl
    · have hin : i < n := by have := lt_of_some hi; simpa [symL] using this
      simp only [symL, List.getElem?_map] at hi
      have hzz : (((List.range n).map fun a => ((some ⟨g + 1 + a, 0, none⟩, n) : Option Addr × Nat)).zip ((List.range n).map fun a => (List.range n).map fun b => symB hs a b))[i]? = some ((some ⟨g + 1 + i, 0, none⟩, n), (List.range n).map fun b => symB hs i b) := List.getElem?_zip_eq_some.2 ⟨by simp [hin], by simp [hin]⟩
      rw [hzz] at hi
      simp only [Option.map_some, Option.some.injEq] at hi
      subst hi
      cases j with
      | succ j => simp at hj
      | zero =>
        simp only [List.getElem?_cons_zero, Option.some.injEq] at hj
        subst hj
        simp only [Nat.zero_add, Nat.mul_one, Nat.add_zero]
        rw [h1.cell, outV_get hin, if_pos hin]
        simp
  · intro p hp
    obtain ⟨i, hi⟩ := List.mem_iff_getElem?.1 hp
    obtain ⟨hi1, hi2⟩ := List.getElem?_zip_eq_some.1 hi
    have hin : i < n := by have := lt_of_some hi1; simpa using this
    simp only [List.getElem?_map, List.getElem?_range hin, Option.map_some, Option.some.injEq] at hi1
    simp only [symL, List.getElem?_map, List.getElem?_range hin, Option.map_some, Option.some.injEq] at hi2
    rw [← hi1, ← hi2]
    refine ⟨_, n, by simp, by simp, hn, ?_, fun _ => ⟨g + 1 + i, 0, rfl, fun b cs hb j x hj => ?_⟩⟩
    · intro cs hc; obtain ⟨x, _, rfl⟩ := List.mem_map.1 hc; rfl
    · have hbn : b < n := by have := lt_of_some hb; simpa using this
      simp only [List.getElem?_map, List.getElem?_range hbn, Option.map_some, Option.some.injEq] at hb
      subst hb
      cases j with
      | succ j => simp [boV] at hj
      | zero =>
        simp only [boV, List.getElem?_cons_zero, Option.some.injEq] at hj
        subst hj
        simp only [Nat.zero_add, Nat.mul_one, Nat.add_zero]
        rw [(h2 i hin).cell, rowV_get hbn]

/-- What each operation of the double assignment leaves. -/
def eatM : Nat → Nat
  | 16 => 13
  | 17 => 15
  | _ => 99
def pvM (g n i k : Nat) (v : Bool) (ri rk : Array Value) : Nat → (Nat → Value) → World → Prop
  | 0, f, _ => f 53 = .slice (some ⟨g, 0, none⟩) n n
  | 1, f, _ => f 54 = .int .i64 (i : Int)
  | 2, f, _ => f 55 = .pointer (some ⟨g, i, none⟩)
  | 3, f, _ => f 56 = .slice (some ⟨g + 1 + i, 0, none⟩) n n
  | 4, f, _ => f 57 = .int .i64 (k : Int)
  | 5, f, _ => f 58 = .slice (some ⟨g, 0, none⟩) n n
  | 6, f, _ => f 59 = .int .i64 (k : Int)
  | 7, f, _ => f 60 = .pointer (some ⟨g, k, none⟩)
  | 8, f, _ => f 61 = .slice (some ⟨g + 1 + k, 0, none⟩) n n
  | 9, f, _ => f 62 = .int .i64 (i : Int)
  | 10, f, _ => f 63 = .bool v
  | 11, f, _ => f 64 = .bool v
  | 12, f, _ => f 65 = .pointer (some ⟨g + 1 + i, k, none⟩)
  | 13, _, w => Blk w (g + 1 + i) (ri.setIfInBounds k (.bool v)) 4
  | 14, f, _ => f 66 = .pointer (some ⟨g + 1 + k, i, none⟩)
  | 15, _, w => Blk w (g + 1 + k) (rk.setIfInBounds i (.bool v)) 4
  | 16, _, w => Blk w (g + 1 + i) ri 4
  | 17, _, w => Blk w (g + 1 + k) rk 4
  | _, _, _ => True
def slM (j : Nat) : List Nat := if j < 13 then [53 + j] else if j = 14 then [66] else []
theorem pvM_congr {g n i k : Nat} {v : Bool} {ri rk : Array Value} {j : Nat} {f h : Nat → Value} {w : World} (hc : ∀ x ∈ slM j, f x = h x) (hp : pvM g n i k v ri rk j f w) : pvM g n i k v ri rk j h w := by
  rcases j with _ | _ | _ | _ | _ | _ | _ | _ | _ | _ | _ | _ | _ | _ | _ | _ | _ | _ | j
  all_goals first
    | exact hp
    | (have e := hc _ List.mem_cons_self; simp only [pvM] at hp ⊢; (try simp only [Nat.add_zero, Nat.zero_add, Nat.reduceAdd] at e); rw [← e]; exact hp)
theorem pvM_set {g n i k b o : Nat} {v : Bool} {ri rk : Array Value} {j : Nat} {f : Nat → Value} {w : World} {x : Value} (hb : (b = g + 1 + i ∧ j ≠ 13 ∧ j ≠ 16 ∧ i ≠ k) ∨ (b = g + 1 + k ∧ j ≠ 15 ∧ j ≠ 17 ∧ i ≠ k)) (hp : pvM g n i k v ri rk j f w) : pvM g n i k v ri rk j f (w.setCell ⟨b, o, none⟩ x) := by
  rcases j with _ | _ | _ | _ | _ | _ | _ | _ | _ | _ | _ | _ | _ | _ | _ | _ | _ | _ | j
  all_goals simp only [pvM] at hp ⊢
  all_goals first
    | exact hp
    | exact hp.other (by omega) _
    | trivial

end Go.Proofs.Ytadiocpcpjbjpaa
