import Derived.Test.YtgaelpbchplmkaaA
namespace Go.Proofs.Ytgaelpbchplmkaa
open Go.RowKit

theorem mul_bd (d t : Int) (d1 : -50 ≤ d) (d2 : d ≤ 50) (t1 : 0 ≤ t) (t2 : t ≤ 10000000000000) : -500000000000000 ≤ d * t ∧ d * t ≤ 500000000000000 := by
  have h1 : d * t ≤ 50 * t := Int.mul_le_mul_of_nonneg_right d2 t1
  have h2 : -50 * t ≤ d * t := Int.mul_le_mul_of_nonneg_right d1 t1
  omega

theorem tdiv_neg_of (x k : Int) (h : x < 0) : x.tdiv k = -((-x) / k) := by
  have h1 : (-x).tdiv k = (-x) / k := Int.tdiv_eq_ediv_of_nonneg (by omega)
  rw [← h1, Int.neg_tdiv, Int.neg_neg]

theorem tmod_neg_of (x k : Int) (h : x < 0) : x.tmod k = -((-x) % k) := by
  have h1 : (-x).tmod k = (-x) % k := Int.tmod_eq_emod_of_nonneg (by omega)
  rw [← h1, Int.neg_tmod, Int.neg_neg]

theorem at_pos (o d t : Int) (w : World) (o1 : -1000000000 ≤ o) (o2 : o ≤ 1000000000) (t1 : 0 ≤ t) (t2 : t ≤ 10000000000000)
    (m1 : 0 ≤ d * t) (m2 : d * t ≤ 500000000000000) :
    Calls Try.prog 20 #[.agg #[.int .i64 o, .int .i64 d], .int .i64 t] w fun e w' => e = .returned (.int .i64 (atZ o d t)) ∧ Below w.heap.size w w' := by
  go_enter Try.func20, Try.ntmps20
  go_wp2
  go_ret
  exact ⟨rfl, (Below.refl _ _).alloc (Nat.le_refl _) _⟩

theorem ret_int {k : IntKind} {a b : Int} (h : a = b) : Ending.returned (.int k a) = .returned (.int k b) := by rw [h]

theorem at_neg (o d t : Int) (w : World) (o1 : -1000000000 ≤ o) (o2 : o ≤ 1000000000) (t1 : 0 ≤ t) (t2 : t ≤ 10000000000000)
    (m1 : -500000000000000 ≤ d * t) (m2 : d * t < 0) :
    Calls Try.prog 20 #[.agg #[.int .i64 o, .int .i64 d], .int .i64 t] w fun e w' => e = .returned (.int .i64 (atZ o d t)) ∧ Below w.heap.size w w' := by
  have e1 := tdiv_neg_of (d * t) 1000000 m2
  have e2 := tmod_neg_of (d * t) 1000000 m2
  have b1 : -500000000 ≤ (d * t).tdiv 1000000 := by omega
  have b2 : (d * t).tdiv 1000000 ≤ 0 := by omega
  by_cases hm : (d * t).tmod 1000000 < 0
  · have H1 := Lib.hid e1
    have H2 := Lib.hid e2
    clear e1 e2
    go_enter Try.func20, Try.ntmps20
    go_wp2
    go_ret
    exact ⟨ret_int (by have := H1.out; have := H2.out; simp [atZ]; omega), (Below.refl _ _).alloc (Nat.le_refl _) _⟩
  · have H1 := Lib.hid e1
    have H2 := Lib.hid e2
    clear e1 e2
    go_enter Try.func20, Try.ntmps20
    go_wp2
    go_ret
    exact ⟨ret_int (by have := H1.out; have := H2.out; simp [atZ]; omega), (Below.refl _ _).alloc (Nat.le_refl _) _⟩

theorem at_any (o d t : Int) (w : World) (o1 : -1000000000 ≤ o) (o2 : o ≤ 1000000000) (d1 : -50 ≤ d) (d2 : d ≤ 50) (t1 : 0 ≤ t) (t2 : t ≤ 10000000000000) :
    Calls Try.prog 20 #[.agg #[.int .i64 o, .int .i64 d], .int .i64 t] w fun e w' => e = .returned (.int .i64 (atZ o d t)) ∧ Below w.heap.size w w' := by
  have m := mul_bd d t d1 d2 t1 t2
  by_cases h : 0 ≤ d * t
  · exact at_pos o d t w o1 o2 t1 t2 h m.2
  · exact at_neg o d t w o1 o2 t1 t2 m.1 (by omega)

theorem atZ_bd (o d t : Int) (o1 : -1000000000 ≤ o) (o2 : o ≤ 1000000000) (d1 : -50 ≤ d) (d2 : d ≤ 50) (t1 : 0 ≤ t) (t2 : t ≤ 10000000000000) :
    -1500000000 ≤ atZ o d t ∧ atZ o d t ≤ 10002000000000 := by
  have m := mul_bd d t d1 d2 t1 t2
  unfold atZ
  omega

theorem bcell {W w1 : World} (hb : Below W.heap.size W w1) : (∀ b o, b < W.heap.size → w1.cell? ⟨b, o, none⟩ = W.cell? ⟨b, o, none⟩) ∧ (∀ b o, b < W.heap.size → w1.frozen? ⟨b, o, none⟩ = W.frozen? ⟨b, o, none⟩) :=
  ⟨fun b o h => hb.cell (p := ⟨b, o, none⟩) h, fun b o h => hb.frozen (p := ⟨b, o, none⟩) h⟩

theorem show_yes (o d t : Int) (w : World) (o1 : -1000000000 ≤ o) (o2 : o ≤ 1000000000) (d1 : -50 ≤ d) (d2 : d ≤ 50) (t1 : 0 ≤ t) (t2 : t ≤ 10000000000000) :
    Calls Try.prog 11 #[.agg #[.int .i64 o, .int .i64 d], .int .i64 t] w fun e w' => e = .returned (.tuple #[.int .i64 (atZ o d t), .int .i64 0]) ∧ Below w.heap.size w w' := by
  go_enter Try.func11, Try.ntmps11
  go_wp2_with fail
  refine (valid_yes _ _ _ o1 o2 d1 d2).mono ?_
  rintro e w1 ⟨rfl, hb⟩
  obtain ⟨hc, hf⟩ := bcell hb
  go_wp2_with fail
  refine (at_any _ _ _ _ o1 o2 d1 d2 t1 t2).mono ?_
  rintro e w2 ⟨rfl, hb2⟩
  go_wp2_with fail
  go_ret2
  refine ⟨rfl, ?_⟩
  exact ((Below.refl _ _).alloc (Nat.le_refl _) _).trans ((hb.mono (by simp)).trans (hb2.mono (by have := hb.size; simp at this; omega)))

theorem show_no (o d t : Int) (w : World) (h : ¬ (((-1000000000 ≤ o ∧ o ≤ 1000000000) ∧ (-50 ≤ d ∧ d ≤ 50)) ∧ (0 ≤ t ∧ t ≤ 10000000000000))) :
    Calls Try.prog 11 #[.agg #[.int .i64 o, .int .i64 d], .int .i64 t] w fun e w' => e = .returned (.tuple #[.int .i64 0, .int .i64 1]) ∧ Below w.heap.size w w' := by
  by_cases h1 : ((-1000000000 ≤ o ∧ o ≤ 1000000000) ∧ (-50 ≤ d ∧ d ≤ 50))
  · have h2 : t < 0 ∨ 10000000000000 < t := by omega
    clear h
    obtain ⟨⟨h3, h4⟩, h5, h6⟩ := h1
    rcases h2 with h2 | h2
    all_goals
      go_enter Try.func11, Try.ntmps11
      go_wp2_with fail
      refine (valid_yes _ _ _ h3 h4 h5 h6).mono ?_
      rintro e w1 ⟨rfl, hb⟩
      go_wp2_with fail
      go_ret2
      refine ⟨rfl, ?_⟩
      exact ((Below.refl _ _).alloc (Nat.le_refl _) _).trans (hb.mono (by simp))
  · clear h
    have H := Lib.hid h1
    clear h1
    go_enter Try.func11, Try.ntmps11
    go_wp2_with fail
    refine (valid_no _ _ _ H.out).mono ?_
    rintro e w1 ⟨rfl, hb⟩
    go_wp2_with fail
    go_ret2
    refine ⟨rfl, ?_⟩
    exact ((Below.refl _ _).alloc (Nat.le_refl _) _).trans (hb.mono (by simp))

end Go.Proofs.Ytgaelpbchplmkaa
