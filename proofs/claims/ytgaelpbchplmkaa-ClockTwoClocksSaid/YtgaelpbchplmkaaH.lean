import Derived.Test.YtgaelpbchplmkaaF
namespace Go.Proofs.Ytgaelpbchplmkaa
open Go.RowKit

theorem mul_diff (d t u : Int) (d1 : -50 ≤ d) (d2 : d ≤ 50) (h : t ≤ u) : -(50 * (u - t)) ≤ d * u - d * t ∧ d * u - d * t ≤ 50 * (u - t) := by
  have e : d * u - d * t = d * (u - t) := by rw [Int.mul_sub]
  have h1 : d * (u - t) ≤ 50 * (u - t) := Int.mul_le_mul_of_nonneg_right d2 (by omega)
  have h2 : -50 * (u - t) ≤ d * (u - t) := Int.mul_le_mul_of_nonneg_right d1 (by omega)
  rw [e]
  omega

theorem rate (o d t u : Int) (d1 : -50 ≤ d) (d2 : d ≤ 50) (h : t ≤ u) :
    u - t - (((u - t) * 50 + 999999) / 1000000 + 1) ≤ atZ o d u - atZ o d t ∧ atZ o d u - atZ o d t ≤ u - t + (((u - t) * 50 + 999999) / 1000000 + 1) := by
  have := mul_diff d t u d1 d2 h
  unfold atZ
  omega

theorem rate_two (o d p e t u : Int) (d1 : -50 ≤ d) (d2 : d ≤ 50) (e1 : -50 ≤ e) (e2 : e ≤ 50) (h : t ≤ u) :
    -(((u - t) * 100 + 999999) / 1000000 + 2) ≤ (atZ o d u - atZ p e u) - (atZ o d t - atZ p e t) ∧ (atZ o d u - atZ p e u) - (atZ o d t - atZ p e t) ≤ ((u - t) * 100 + 999999) / 1000000 + 2 := by
  have h1 := mul_diff d t u d1 d2 h
  have h2 := mul_diff e t u e1 e2 h
  unfold atZ
  omega

theorem ClockRate_walk (o d t u : Int) (w : World) :
    Calls Try.prog 5 #[.agg #[.int .i64 o, .int .i64 d], .int .i64 t, .int .i64 u] w fun e w' => e = .returned (.bool true) ∧ Below w.heap.size w w' := by
  go_enter Try.func5, Try.ntmps5
  go_wp2_with fail
  refine (head_any _).mono ?_
  rintro e w1 ⟨rfl, hb⟩
  obtain ⟨hc, hf⟩ := bcell hb
  have hz : w.heap.size < w1.heap.size := by have := hb.size; simp at this; omega
  have hB1 : Below w.heap.size w w1 := ((Below.refl _ _).alloc (Nat.le_refl _) _).trans (hb.mono (by simp))
  go_wp2_with fail
  refine (two_any _ _ _ _ _).mono ?_
  rintro e w2 ⟨⟨a, b, ok, rfl, h2⟩, hb2⟩
  obtain ⟨hc2, hf2⟩ := bcell hb2
  have hB2 : Below w.heap.size w w2 := hB1.trans (hb2.mono (by omega))
  rcases h2 with ⟨⟨⟨o1, o2⟩, d1, d2⟩, ⟨t1, t2⟩, ⟨u1, u2⟩, htu, rfl, rfl, rfl⟩ | ⟨hn, rfl⟩
  · obtain ⟨r1, r2⟩ := rate o d t u d1 d2 htu
    obtain ⟨b1, b2⟩ := atZ_bd o d t o1 o2 d1 d2 t1 t2
    obtain ⟨b3, b4⟩ := atZ_bd o d u o1 o2 d1 d2 u1 u2
    go_wp2_with fail
    refine (parts_any _ _ _ (by omega) (by omega)).mono ?_
    rintro e w3 ⟨rfl, rfl⟩
    go_wp2_with fail
    go_ret
    exact ⟨by simp, hB2⟩
  · clear hn
    go_wp2_with fail
    go_ret
    exact ⟨rfl, hB2⟩

theorem ClockTwoClocks_walk (o d p q t u : Int) (w : World) :
    Calls Try.prog 8 #[.agg #[.int .i64 o, .int .i64 d], .agg #[.int .i64 p, .int .i64 q], .int .i64 t, .int .i64 u] w fun e w' => e = .returned (.bool true) ∧ Below w.heap.size w w' := by
  go_enter Try.func8, Try.ntmps8
  go_wp2_with fail
  refine (head_any _).mono ?_
  rintro e w1 ⟨rfl, hb⟩
  obtain ⟨hc, hf⟩ := bcell hb
  have hz : w.heap.size + 1 < w1.heap.size := by have := hb.size; simp at this; omega
  have hy : w.heap.size < w1.heap.size := by omega
  have hB1 : Below w.heap.size w w1 := (((Below.refl _ _).alloc (Nat.le_refl _) _).alloc (by simp) _).trans (hb.mono (by simp; omega))
  go_wp2_with fail
  refine (two_any _ _ _ _ _).mono ?_
  rintro e w2 ⟨⟨a, b, ok, rfl, h2⟩, hb2⟩
  obtain ⟨hc2, hf2⟩ := bcell hb2
  have hz2 : w.heap.size + 1 < w2.heap.size := by have := hb2.size; omega
  have hB2 : Below w.heap.size w w2 := hB1.trans (hb2.mono (by omega))
  go_wp2_with fail
  refine (two_any _ _ _ _ _).mono ?_
  rintro e w3 ⟨⟨x, y, is, rfl, h3⟩, hb3⟩
  obtain ⟨hc3, hf3⟩ := bcell hb3
  have hB3 : Below w.heap.size w w3 := hB2.trans (hb3.mono (by omega))
  rcases h2 with ⟨⟨⟨o1, o2⟩, d1, d2⟩, ⟨t1, t2⟩, ⟨u1, u2⟩, htu, rfl, rfl, rfl⟩ | ⟨hn, rfl⟩
  · rcases h3 with ⟨⟨⟨p1, p2⟩, q1, q2⟩, _, _, _, rfl, rfl, rfl⟩ | ⟨hn, rfl⟩
    · obtain ⟨r1, r2⟩ := rate_two o d p q t u d1 d2 q1 q2 htu
      obtain ⟨b1, b2⟩ := atZ_bd o d t o1 o2 d1 d2 t1 t2
      obtain ⟨b3, b4⟩ := atZ_bd o d u o1 o2 d1 d2 u1 u2
      obtain ⟨b5, b6⟩ := atZ_bd p q t p1 p2 q1 q2 t1 t2
      obtain ⟨b7, b8⟩ := atZ_bd p q u p1 p2 q1 q2 u1 u2
      go_wp2_with fail
      refine (parts_any _ _ _ (by omega) (by omega)).mono ?_
      rintro e w4 ⟨rfl, rfl⟩
      go_wp2_with fail
      go_ret
      exact ⟨by simp, hB3⟩
    · clear hn
      go_wp2_with fail
      go_ret
      exact ⟨rfl, hB3⟩
  · clear hn h3
    go_wp2_with fail
    go_ret
    exact ⟨rfl, hB3⟩

end Go.Proofs.Ytgaelpbchplmkaa
