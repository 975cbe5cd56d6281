import Derived.Test.YtadiocpcpjbjpaaM
namespace Go.Proofs.Ytadiocpcpjbjpaa
open Go.RowKit

theorem take_succ_eq {α : Type} {l l' : List α} {k : Nat} {x : α} (h : l.take k = l'.take k) (hx : l[k]? = some x) (hy : l'[k]? = some x) : l.take (k + 1) = l'.take (k + 1) := by
  rw [List.take_add_one, List.take_add_one, h, hx, hy]
theorem take_all_eq {α : Type} {l l' : List α} {k : Nat} (h : l.take k = l'.take k) (hk : l.length ≤ k) (hk' : l'.length ≤ k) : l = l' := by
  rw [List.take_of_length_le hk, List.take_of_length_le hk'] at h
  exact h
theorem ne_of_at {α : Type} {l l' : List α} {k : Nat} {x y : α} (hx : l[k]? = some x) (hy : l'[k]? = some y) (h : x ≠ y) : l ≠ l' := by
  rintro rfl
  exact h (Option.some.inj (hx.symm.trans hy))

/-- A clash in a slice. -/
theorem ch_at {w : World} {a : Option Addr} {n cap : Nat} {l : List Ch} (h : Rows 5 w (.slice a n cap) (l.map chV)) {i : Nat} {u : Ch} (hi : l[i]? = some u) :
    ∃ b off, (∀ W, (Instr.indexAt 45 (.slice a n cap) (.int .i64 (i : Int))).run Try.prog W = .ok (.pointer (some ⟨b, off + i * 5, none⟩)) W) ∧
      w.cell? ⟨b, off + i * 5, none⟩ = some (.int .i64 u.1.1) ∧ w.cell? ⟨b, off + i * 5 + 1, none⟩ = some (.int .i64 u.1.2) ∧ w.cell? ⟨b, off + i * 5 + 2, none⟩ = some (.int .i64 u.2.1) ∧
      w.cell? ⟨b, off + i * 5 + 3, none⟩ = some (.int .i64 u.2.2.1) ∧ w.cell? ⟨b, off + i * 5 + 4, none⟩ = some (.int .i64 u.2.2.2) := by
  obtain ⟨b, off, h1, h2⟩ := h.at (T := 45) (e := 48) Try.underlying45 rfl sz48 (i := i) (cs := chV u) (by simp [hi])
  exact ⟨b, off, h1, h2 0 _ rfl, h2 1 _ rfl, h2 2 _ rfl, h2 3 _ rfl, h2 4 _ rfl⟩

set_option maxRecDepth 100000 in
theorem sameClashes_any (a a' : Option Addr) (n n' cap cap' : Nat) (xs ys : List Ch) (w : World) (hX : Rows 5 w (.slice a n cap) (xs.map chV)) (hY : Rows 5 w (.slice a' n' cap') (ys.map chV)) :
    Calls Try.prog 20 #[.slice a n cap, .slice a' n' cap'] w fun e w' => e = .returned (.bool (decide (xs = ys))) ∧ Below w.heap.size w w' := by
  have hn := hX.length
  have hn' := hY.length
  simp only [List.length_map] at hn hn'
  have HN := Lib.hid hn
  have HN' := Lib.hid hn'
  have hm : n ≤ maxLen := by have := hX.length; omega
  unfold maxLen at hm
  clear hn hn'
  go_enter Try.func20, Try.ntmps20
  by_cases hl : n = n'
  case neg =>
    have hne : ((n : Int) == (n' : Int)) = false := by simpa using fun e => hl (by omega)
    have hd : decide (xs = ys) = false := decide_eq_false (fun e => hl (by have := HN.out; have := HN'.out; subst e; omega))
    have HD := Lib.hid hd
    clear hd
    go_wp2_with fail
    go_ret
    exact ⟨ret_bool HD.out.symm, Below.refl _ _⟩
  subst hl
  go_wp2_with fail
  go_loopw [5] (fun i wr => ∃ k : Nat, i = .int .i64 k ∧ k ≤ n ∧ xs.take k = ys.take k ∧ Below w.heap.size w wr) (fun i _ => n - (intOf i).toNat)
  case atStart => exact ⟨0, rfl, by omega, by simp, Below.refl _ _⟩
  case round =>
    obtain ⟨k, rfl, hk, hx, hb⟩ := hrel
    by_cases hlt : k < n
    · obtain ⟨x, hxk⟩ : ∃ x, xs[k]? = some x := ⟨xs[k]'(by have := HN.out; omega), List.getElem?_eq_getElem _⟩
      obtain ⟨y, hyk⟩ : ∃ y, ys[k]? = some y := ⟨ys[k]'(by have := HN'.out; omega), List.getElem?_eq_getElem _⟩
      obtain ⟨b, off, hix, d0, d1, d2, d3, d4⟩ := ch_at (hX.below hb (Nat.le_refl _)) hxk
      obtain ⟨b', off', hix', e0, e1, e2, e3, e4⟩ := ch_at (hY.below hb (Nat.le_refl _)) hyk
      have z := cell_block d0
      have z' := cell_block e0
      have he := ch_neq x y
      by_cases hxy : x = y
      · have hd : decide (x = y) = true := decide_eq_true hxy
        have HX := Lib.hid (take_succ_eq hx hxk (hxy ▸ hyk))
        clear hx hxk hyk hxy
        go_wp2_with fail
        go_quiet (fail)
        go_wp2_with fail
        go_roundw
        case rel => exact ⟨k + 1, rfl, by omega, HX.out, below_drewN hb _⟩
        case measure => simp [intOf]; omega
      · have hd : decide (x = y) = false := decide_eq_false hxy
        have HX := Lib.hid (ne_of_at hxk hyk hxy)
        clear hx hxk hyk hxy
        go_wp2_with fail
        go_quiet (fail)
        go_wp2_with fail
        go_ret
        exact ⟨ret_bool (by simp [HX.out]), below_drewN hb _⟩
    · have HX := Lib.hid (take_all_eq hx (by have := HN.out; omega) (by have := HN'.out; omega))
      clear hx
      go_wp2_with fail
      go_ret
      exact ⟨ret_bool (by simp [HX.out]), hb⟩

end Go.Proofs.Ytadiocpcpjbjpaa
