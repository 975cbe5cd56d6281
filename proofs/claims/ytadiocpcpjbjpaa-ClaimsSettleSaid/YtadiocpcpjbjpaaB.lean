import Derived.Test.YtadiocpcpjbjpaaA
namespace Go.Proofs.Ytadiocpcpjbjpaa
open Go.RowKit

theorem not_take_succ {α : Type} {l : List α} {k : Nat} {x u : α} (hx : l[k]? = some x) (h : u ∉ l.take k) (hne : x ≠ u) : u ∉ l.take (k + 1) := by
  rw [List.take_add_one, hx]
  simp only [Option.toList_some, List.mem_append, List.mem_singleton, not_or]
  exact ⟨h, fun e => hne e.symm⟩

theorem not_take_all {α : Type} {l : List α} {n k : Nat} {u : α} (hn : n = l.length) (hk : ¬ k < n) (h : u ∉ l.take k) : u ∉ l := by
  rw [List.take_of_length_le (by omega)] at h
  exact h

theorem holds_use (l : List Us) (u : Us) (a : Option Addr) (n cap : Nat) (vg va : Value) (gr : Gr) (w : World) (hn : n = l.length) (hm : n ≤ maxLen) (hl : Rows 4 w (.slice a n cap) (l.map usV)) :
    Calls Try.prog 14 #[.agg #[.slice a n cap, vg, va], .agg #[.int .i64 u.1.1, .int .i64 u.1.2, .int .i64 u.2.1, .int .i64 u.2.2], .agg #[.int .i64 gr.1.1, .int .i64 gr.1.2, .int .i64 gr.2.1, .int .i64 gr.2.2.1, .int .i64 gr.2.2.2], .bool true] w
      fun e w' => e = .returned (.bool (decide (u ∈ l))) ∧ Below w.heap.size w w' := by
  unfold maxLen at hm
  have HN := Lib.hid hn
  clear hn
  go_enter Try.func14, Try.ntmps14
  go_wp2_with fail
  refine wp_name ?_
  intro W0 hW0
  have z0 : w.heap.size + 1 < W0.heap.size := by rw [hW0]; simp
  have c0 : W0.cell? ⟨w.heap.size + 1, 0, none⟩ = some (.int .i64 u.1.1) := by rw [hW0]; go_simp
  have c1 : W0.cell? ⟨w.heap.size + 1, 1, none⟩ = some (.int .i64 u.1.2) := by rw [hW0]; go_simp
  have c2 : W0.cell? ⟨w.heap.size + 1, 2, none⟩ = some (.int .i64 u.2.1) := by rw [hW0]; go_simp
  have c3 : W0.cell? ⟨w.heap.size + 1, 3, none⟩ = some (.int .i64 u.2.2) := by rw [hW0]; go_simp
  have hB0 : Below w.heap.size w W0 := by rw [hW0]; exact (((Below.refl _ _).alloc (Nat.le_refl _) _).alloc (by simp) _).alloc (by simp; omega) _
  clear hW0
  have hl0 := hl.below hB0 (Nat.le_refl _)
  go_loopw [17] (fun i wr => ∃ k : Nat, i = .int .i64 k ∧ k ≤ n ∧ u ∉ l.take k ∧ Below W0.heap.size W0 wr)
    (fun i _ => n - (intOf i).toNat)
  case atStart => exact ⟨0, rfl, by omega, by simp, Below.refl _ _⟩
  case round =>
    obtain ⟨k, rfl, hk, hx, hb⟩ := hrel
    obtain ⟨hc, hf⟩ := bcell hb
    have hz : w.heap.size + 1 < wr.heap.size := by have := hb.size; omega
    by_cases hlt : k < n
    · obtain ⟨x, hxk⟩ : ∃ x, l[k]? = some x := ⟨l[k]'(by rw [← HN.out]; exact hlt), List.getElem?_eq_getElem _⟩
      obtain ⟨b, off, hix, d0, d1, d2, d3⟩ := us_at (hl0.below hb (Nat.le_refl _)) hxk
      have he := us_eql x u
      by_cases hxu : x = u
      · have hm : u ∈ l := by rw [← hxu]; exact List.mem_of_getElem? hxk
        have hd : decide (x = u) = true := decide_eq_true hxu
        have HM := Lib.hid hm
        clear hm hxu hx hxk
        go_wp2_with fail
        go_ret
        exact ⟨ret_bool (by simp [HM.out]), (hB0.trans (hb.mono (by have := hB0.size; omega))).alloc (by have := hb.size; have := hB0.size; omega) _⟩
      · have hd : decide (x = u) = false := decide_eq_false hxu
        have HX := Lib.hid (not_take_succ hxk hx hxu)
        clear hxu hx hxk
        go_wp2_with fail
        go_roundw
        case rel => exact ⟨k + 1, rfl, by omega, HX.out, hb.alloc hb.size _⟩
        case measure => simp [intOf]; omega
    · have HX := Lib.hid (not_take_all HN.out hlt hx)
      clear hx
      go_wp2_with fail
      go_ret
      exact ⟨ret_bool (by simp [HX.out]), hB0.trans (hb.mono (by have := hB0.size; omega))⟩

end Go.Proofs.Ytadiocpcpjbjpaa
