import Derived.Test.YtadiocpcpjbjpaaKa
namespace Go.Proofs.Ytadiocpcpjbjpaa
open Go.RowKit

/-! ### When there is a clash -/
def ClashP (hs : List (List Bool)) (ts : List Tb) (fr : Int) (x : Ch) : Prop :=
  ∃ (l : Nat) (t : Tb) (row : List Bool) (g : Gr) (c : Nat) (s : Tb), ts[l]? = some t ∧ hs[l]? = some row ∧ g ∈ t.gs ∧ ts[c]? = some s ∧ row[c]? = some true ∧ (c : Int) ≠ l ∧ (c : Int) ≠ g.2.1 ∧
    s.us.any (fun u => decide (u.1 = g.1)) = true ∧ fr ≤ g.2.2.2 ∧ x = (g.1, (l : Int), g.2.1, (c : Int))

def wantU (row : List Bool) (fr : Int) (l : Nat) (g : Gr) (c : Nat) (u : Us) : List Ch :=
  if (c : Int) ≠ l ∧ (c : Int) ≠ g.2.1 ∧ row[c]? = some true ∧ u.1 = g.1 ∧ fr ≤ g.2.2.2 then [(g.1, (l : Int), g.2.1, (c : Int))] else []
def wantS (row : List Bool) (fr : Int) (l : Nat) (g : Gr) (ts : List Tb) (c : Nat) : List Ch := match ts[c]? with
  | none => []
  | some s => s.us.flatMap (wantU row fr l g c)
def wantG (row : List Bool) (fr : Int) (l : Nat) (ts : List Tb) (g : Gr) : List Ch := (List.range ts.length).flatMap (wantS row fr l g ts)
def wantL (hs : List (List Bool)) (fr : Int) (ts : List Tb) (l : Nat) : List Ch := match ts[l]?, hs[l]? with
  | some t, some row => t.gs.flatMap (wantG row fr l ts)
  | _, _ => []
def wantAll (hs : List (List Bool)) (ts : List Tb) (fr : Int) : List Ch := (List.range ts.length).flatMap (wantL hs fr ts)

theorem lt_of_some {α : Type} {l : List α} {i : Nat} {x : α} (h : l[i]? = some x) : i < l.length := (List.getElem?_eq_some_iff.1 h).1

theorem mem_wantAll (hs : List (List Bool)) (ts : List Tb) (fr : Int) (x : Ch) : x ∈ wantAll hs ts fr ↔ ClashP hs ts fr x := by
  constructor
  · intro h
    obtain ⟨l, hl, h⟩ := List.mem_flatMap.1 h
    unfold wantL at h
    cases ht : ts[l]? with
    | none => rw [ht] at h; cases h
    | some t =>
      cases hr : hs[l]? with
      | none => rw [ht, hr] at h; cases h
      | some row =>
        rw [ht, hr] at h
        obtain ⟨g, hg, h⟩ := List.mem_flatMap.1 h
        obtain ⟨c, hc, h⟩ := List.mem_flatMap.1 h
        unfold wantS at h
        cases hs2 : ts[c]? with
        | none => rw [hs2] at h; cases h
        | some s =>
          rw [hs2] at h
          obtain ⟨u, hu, h⟩ := List.mem_flatMap.1 h
          unfold wantU at h
          split at h
          · rename_i hcond
            obtain ⟨c1, c2, c3, c4, c5⟩ := hcond
            exact ⟨l, t, row, g, c, s, ht, hr, hg, hs2, c3, c1, c2, List.any_eq_true.2 ⟨u, hu, by simp [c4]⟩, c5, List.mem_singleton.1 h⟩
          · cases h
  · rintro ⟨l, t, row, g, c, s, ht, hr, hg, hs2, c3, c1, c2, hu, c5, rfl⟩
    obtain ⟨u, hu, hug⟩ := List.any_eq_true.1 hu
    refine List.mem_flatMap.2 ⟨l, List.mem_range.2 (lt_of_some ht), ?_⟩
    unfold wantL
    rw [ht, hr]
    refine List.mem_flatMap.2 ⟨g, hg, List.mem_flatMap.2 ⟨c, List.mem_range.2 (lt_of_some hs2), ?_⟩⟩
    unfold wantS
    rw [hs2]
    refine List.mem_flatMap.2 ⟨u, hu, ?_⟩
    unfold wantU
    rw [if_pos ⟨c1, c2, c3, of_decide_eq_true hug, c5⟩]
    exact List.mem_singleton.2 rfl

theorem mem_hits {hs : List (List Bool)} {ts : List Tb} {fr : Int} {x : Ch} (hsq : hs.length = ts.length ∧ ∀ h ∈ hs, h.length = ts.length) :
    x ∈ (List.range ts.length).flatMap (hitsL (sentTo ts ts.length) fr hs ts) ↔ ClashP hs ts fr x := by
  constructor
  · intro h
    obtain ⟨l, hl, h⟩ := List.mem_flatMap.1 h
    unfold hitsL at h
    cases ht : ts[l]? with
    | none => rw [ht] at h; cases h
    | some t =>
      cases hr : hs[l]? with
      | none => rw [ht, hr] at h; cases h
      | some row =>
        rw [ht, hr] at h
        obtain ⟨g, hg, h⟩ := List.mem_flatMap.1 h
        unfold hitsG at h
        split at h
        · cases h
        · rename_i hun
          obtain ⟨c, hc, h⟩ := List.mem_flatMap.1 h
          unfold hitAt at h
          split at h
          · rename_i hcond
            obtain ⟨c1, c2, c3, c4⟩ := hcond
            have hrl := hsq.2 row (List.mem_of_getElem? hr)
            obtain ⟨s, hs2⟩ : ∃ s, ts[c]? = some s := ⟨ts[c]'(by have := lt_of_some c1; omega), List.getElem?_eq_getElem _⟩
            exact ⟨l, t, row, g, c, s, ht, hr, hg, hs2, c1, c2, c3, (sent_iff hs2).1 c4, by omega, List.mem_singleton.1 h⟩
          · cases h
  · rintro ⟨l, t, row, g, c, s, ht, hr, hg, hs2, c3, c1, c2, hu, c5, rfl⟩
    refine List.mem_flatMap.2 ⟨l, List.mem_range.2 (lt_of_some ht), ?_⟩
    unfold hitsL
    rw [ht, hr]
    refine List.mem_flatMap.2 ⟨g, hg, ?_⟩
    unfold hitsG
    rw [if_neg (by omega)]
    refine List.mem_flatMap.2 ⟨c, List.mem_range.2 (lt_of_some c3), ?_⟩
    unfold hitAt
    rw [if_pos ⟨c3, c1, c2, (sent_iff hs2).2 hu⟩]
    exact List.mem_singleton.2 rfl

theorem mem_clashes {hs : List (List Bool)} {ts : List Tb} {fr : Int} {x : Ch} (hsq : hs.length = ts.length ∧ ∀ h ∈ hs, h.length = ts.length) : x ∈ clashesL hs ts fr ↔ ClashP hs ts fr x := by
  unfold clashesL
  rw [if_pos hsq]
  exact mem_hits hsq
theorem clash_of_mem {hs : List (List Bool)} {ts : List Tb} {fr : Int} {x : Ch} (h : x ∈ clashesL hs ts fr) : ClashP hs ts fr x := by
  by_cases hsq : hs.length = ts.length ∧ ∀ h ∈ hs, h.length = ts.length
  · exact (mem_clashes hsq).1 h
  · unfold clashesL at h
    rw [if_neg hsq] at h
    cases h

theorem clash_deaf {hs : List (List Bool)} {ts : List Tb} {fr : Int} {x : Ch} {k m : Nat} (h : ClashP (hs.set k (List.replicate m false)) ts fr x) : ClashP hs ts fr x := by
  obtain ⟨l, t, row, g, c, s, ht, hr, hg, hs2, c3, r⟩ := h
  rw [List.getElem?_set] at hr
  split at hr
  · split at hr
    · simp only [Option.some.injEq] at hr
      subst hr
      rw [List.getElem?_replicate] at c3
      split at c3 <;> simp at c3
    · cases hr
  · exact ⟨l, t, row, g, c, s, ht, hr, hg, hs2, c3, r⟩
theorem clash_drop {hs : List (List Bool)} {ts : List Tb} {fr : Int} {x : Ch} {k : Nat} (h : ClashP hs (ts.set k tabZ) fr x) : ClashP hs ts fr x := by
  obtain ⟨l, t, row, g, c, s, ht, hr, hg, hs2, c3, c1, c2, hu, r⟩ := h
  rw [List.getElem?_set] at ht hs2
  split at ht
  · split at ht
    · simp only [Option.some.injEq] at ht
      subst ht
      simp [tabZ] at hg
    · cases ht
  · split at hs2
    · split at hs2
      · simp only [Option.some.injEq] at hs2
        subst hs2
        simp [tabZ] at hu
      · cases hs2
    · exact ⟨l, t, row, g, c, s, ht, hr, hg, hs2, c3, c1, c2, hu, r⟩

/-! ### A cell of a row of one's own, put anew -/
theorem owns_cell {w : World} {base n g cap i : Nat} {e : TypeId} {size : Nat} {xs : List Value} (x : Value) (h : w.ownsRow base e size (.slice (some ⟨g, 0, none⟩) n cap) n xs) :
    (w.setCell ⟨g, i, none⟩ x).ownsRow base e size (.slice (some ⟨g, 0, none⟩) n cap) n (xs.set i x) := by
  rcases h with ⟨h1, ⟨hv, _⟩ | ⟨g', cap', cur, hv, hg, hh, r1, r2, r3, r4⟩⟩
  · cases hv
  · simp only [Value.slice.injEq, Option.some.injEq, Addr.mk.injEq, and_true, true_and] at hv
    obtain ⟨rfl, rfl⟩ := hv
    refine ⟨by rw [List.length_set]; exact h1, .inr ⟨g, cap, cur.setIfInBounds i x, rfl, hg, heap_setCell_same w g i cur e x hh, r1, r2, by simpa using r3, ?_⟩⟩
    rw [Array.toList_setIfInBounds, List.take_set, r4]

theorem flat_set3 (u v z : Value) : ∀ (ts : List Tb) (k : Nat) (t : Tb), k < ts.length → tbV t = [u, v, z] → ((((ts.map tbV).flatten.set (k * 3) u).set (k * 3 + 1) v).set (k * 3 + 2) z) = ((ts.set k t).map tbV).flatten
  | [], k, t, h, _ => by simp at h
  | s :: ts, 0, t, _, ht => by
    rw [List.set_cons_zero, List.map_cons, List.map_cons, List.flatten_cons, List.flatten_cons, ht]
    rfl
  | s :: ts, k + 1, t, h, ht => by
    have ih := flat_set3 u v z ts k t (by simpa using h) ht
    rw [List.set_cons_succ, List.map_cons, List.map_cons, List.flatten_cons, List.flatten_cons, ← ih]
    have e1 : (k + 1) * 3 = (tbV s).length + k * 3 := by rw [show (tbV s).length = 3 from rfl]; omega
    rw [e1, show (tbV s).length + k * 3 + 1 = (tbV s).length + (k * 3 + 1) by omega, show (tbV s).length + k * 3 + 2 = (tbV s).length + (k * 3 + 2) by omega]
    rw [List.set_append_right _ _ (by omega), List.set_append_right _ _ (by omega), List.set_append_right _ _ (by omega)]
    simp

theorem info49 : (Try.prog.info? 49).map (fun i => (i.zero, i.size, i.bytes)) = some (some (.slice none 0 0), 1, 24) := by kernel_rfl
theorem info26 : (Try.prog.info? 26).map (fun i => (i.zero, i.size, i.bytes)) = some (some (.agg #[.slice none 0 0, .slice none 0 0, .slice none 0 0]), 3, 72) := by kernel_rfl

end Go.Proofs.Ytadiocpcpjbjpaa
