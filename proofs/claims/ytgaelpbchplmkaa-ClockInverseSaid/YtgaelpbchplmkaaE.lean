import Derived.Test.YtgaelpbchplmkaaD
namespace Go.Proofs.Ytgaelpbchplmkaa
open Go.RowKit

theorem shows_yes (o d t s : Int) (w : World) (o1 : -1000000000 ≤ o) (o2 : o ≤ 1000000000) (d1 : -50 ≤ d) (d2 : d ≤ 50) (t1 : 0 ≤ t) (t2 : t ≤ 10000000000000) (hs : atZ o d t = s) :
    Calls Try.prog 19 #[.agg #[.int .i64 o, .int .i64 d], .int .i64 t, .int .i64 s] w fun e w' => e = .returned (.bool true) ∧ Below w.heap.size w w' := by
  subst hs
  go_enter Try.func19, Try.ntmps19
  go_wp2_with fail
  refine (show_yes _ _ _ _ o1 o2 d1 d2 t1 t2).mono ?_
  rintro e w1 ⟨rfl, hb⟩
  obtain ⟨hc, hf⟩ := bcell hb
  go_wp2_with fail
  go_ret
  exact ⟨by simp, ((Below.refl _ _).alloc (Nat.le_refl _) _).trans (hb.mono (by simp))⟩

theorem whenIs_at {o d s lo hi er a b : Int} (o1 : -1000000000 ≤ o) (o2 : o ≤ 1000000000) (d1 : -50 ≤ d) (d2 : d ≤ 50) (h : WhenIs o d s lo hi er)
    (a0 : 0 ≤ a) (ab : a ≤ b) (b1 : b ≤ 10000000000000) (ha : atZ o d a = s) (hb : atZ o d b = s) (ha' : a = 0 ∨ atZ o d (a - 1) < s) (hb' : s < atZ o d (b + 1)) : lo = a ∧ hi = b ∧ er = 0 := by
  rcases h with h | h | ⟨_, ⟨l0, lh, h1, h⟩, rfl⟩
  · omega
  · exact absurd ha (h.2.1 a (by omega) (by omega))
  · have e1 := (h a (by omega) (by omega)).1 ha
    have e2 := (h b (by omega) (by omega)).1 hb
    have e3 := (h lo (by omega) (by omega)).2 ⟨by omega, by omega⟩
    have e4 := (h hi (by omega) (by omega)).2 ⟨by omega, by omega⟩
    refine ⟨?_, ?_, rfl⟩
    · rcases ha' with ha' | ha'
      · omega
      · by_cases hl : lo ≤ a - 1
        · have := atZ_mono o d lo (a - 1) d1 d2 hl; omega
        · omega
    · by_cases hl : b + 1 ≤ hi
      · have := atZ_mono o d (b + 1) hi d1 d2 hl; omega
      · omega

theorem whenIs_not {o d s lo hi er a : Int} (o1 : -1000000000 ≤ o) (o2 : o ≤ 1000000000) (d1 : -50 ≤ d) (d2 : d ≤ 50) (h : WhenIs o d s lo hi er)
    (ha : atZ o d a < s) (hb : s < atZ o d (a + 1)) : lo = 0 ∧ hi = 0 ∧ er = 4 := by
  rcases h with h | h | ⟨_, ⟨l0, lh, h1, h⟩, rfl⟩
  · omega
  · exact ⟨h.2.2.1, h.2.2.2.1, h.2.2.2.2⟩
  · have e3 := (h lo (by omega) (by omega)).2 ⟨by omega, by omega⟩
    by_cases hl : lo ≤ a
    · have := atZ_mono o d lo a d1 d2 hl; omega
    · have := atZ_mono o d (a + 1) lo d1 d2 (by omega); omega

theorem when_any (o d s : Int) (w : World) :
    Calls Try.prog 13 #[.agg #[.int .i64 o, .int .i64 d], .int .i64 s] w fun e w' => WhenRes o d s e ∧ Below w.heap.size w w' := by
  by_cases h : ((-1000000000 ≤ o ∧ o ≤ 1000000000) ∧ (-50 ≤ d ∧ d ≤ 50))
  · exact when_good o d s w h.1.1 h.1.2 h.2.1 h.2.2
  · exact when_bad o d s w h

set_option maxRecDepth 100000 in
set_option maxHeartbeats 1000000 in
theorem head_any (w : World) :
    Calls Try.prog 10 #[] w fun e w' => e = .returned (.bool true) ∧ Below w.heap.size w w' := by
  go_enter Try.func10, Try.ntmps10
  go_wp2_with fail
  refine (shows_yes 7 0 100 107 _ (by decide) (by decide) (by decide) (by decide) (by decide) (by decide) (by decide)).mono ?_
  rintro e w1 ⟨rfl, hb⟩
  obtain ⟨hc, hf⟩ := bcell hb
  have hz : w.heap.size + 1 < w1.heap.size := by have := hb.size; simp at this; omega
  have hy : w.heap.size < w1.heap.size := by omega
  have hB1 : Below w.heap.size w w1 := (((Below.refl _ _).alloc (Nat.le_refl _) _).alloc (by simp) _).trans (hb.mono (by simp; omega))
  go_wp2_with fail
  refine (shows_yes 0 50 20000 20001 _ (by decide) (by decide) (by decide) (by decide) (by decide) (by decide) (by decide)).mono ?_
  rintro e w2 ⟨rfl, hb2⟩
  obtain ⟨hc2, hf2⟩ := bcell hb2
  have hz2 : w.heap.size + 1 < w2.heap.size := by have := hb2.size; omega
  have hy2 : w.heap.size < w2.heap.size := by omega
  have hB2 : Below w.heap.size w w2 := hB1.trans (hb2.mono (by omega))
  go_wp2_with fail
  refine (shows_yes 0 (-50) 0 0 _ (by decide) (by decide) (by decide) (by decide) (by decide) (by decide) (by decide)).mono ?_
  rintro e w3 ⟨rfl, hb3⟩
  obtain ⟨hc3, hf3⟩ := bcell hb3
  have hz3 : w.heap.size + 1 < w3.heap.size := by have := hb3.size; omega
  have hy3 : w.heap.size < w3.heap.size := by omega
  have hB3 : Below w.heap.size w w3 := hB2.trans (hb3.mono (by omega))
  go_wp2_with fail
  refine (shows_yes 0 (-50) 1 0 _ (by decide) (by decide) (by decide) (by decide) (by decide) (by decide) (by decide)).mono ?_
  rintro e w4 ⟨rfl, hb4⟩
  obtain ⟨hc4, hf4⟩ := bcell hb4
  have hz4 : w.heap.size + 1 < w4.heap.size := by have := hb4.size; omega
  have hy4 : w.heap.size < w4.heap.size := by omega
  have hB4 : Below w.heap.size w w4 := hB3.trans (hb4.mono (by omega))
  go_wp2_with fail
  refine (shows_yes 0 (-50) 20001 19999 _ (by decide) (by decide) (by decide) (by decide) (by decide) (by decide) (by decide)).mono ?_
  rintro e w5 ⟨rfl, hb5⟩
  obtain ⟨hc5, hf5⟩ := bcell hb5
  have hz5 : w.heap.size + 1 < w5.heap.size := by have := hb5.size; omega
  have hy5 : w.heap.size < w5.heap.size := by omega
  have hB5 : Below w.heap.size w w5 := hB4.trans (hb5.mono (by omega))
  go_wp2_with fail
  refine (when_any 0 50 20000 _).mono ?_
  rintro e w6 ⟨⟨lo, hi, er, rfl, hr⟩, hb6⟩
  obtain ⟨rfl, rfl, rfl⟩ := whenIs_not (a := 19999) (by decide) (by decide) (by decide) (by decide) hr (by decide) (by decide)
  clear hr
  obtain ⟨hc6, hf6⟩ := bcell hb6
  have hz6 : w.heap.size + 1 < w6.heap.size := by have := hb6.size; omega
  have hy6 : w.heap.size < w6.heap.size := by omega
  have hB6 : Below w.heap.size w w6 := hB5.trans (hb6.mono (by omega))
  go_wp2_with fail
  refine (when_any 0 (-50) 0 _).mono ?_
  rintro e w7 ⟨⟨lo, hi, er, rfl, hr⟩, hb7⟩
  obtain ⟨rfl, rfl, rfl⟩ := whenIs_at (a := 0) (b := 1) (by decide) (by decide) (by decide) (by decide) hr (by decide) (by decide) (by decide) (by decide) (by decide) (by decide) (by decide)
  clear hr
  obtain ⟨hc7, hf7⟩ := bcell hb7
  have ha7 : w6.heap.size < w7.heap.size := by have := hb7.size; simp at this; omega
  have hz7 : w.heap.size + 1 < w7.heap.size := by omega
  have hy7 : w.heap.size < w7.heap.size := by omega
  have hB7 : Below w.heap.size w w7 := (hB6.alloc (by omega) _).trans (hb7.mono (by simp; omega))
  go_wp2_with fail
  refine (when_any 0 (-50) 19999 _).mono ?_
  rintro e w8 ⟨⟨lo, hi, er, rfl, hr⟩, hb8⟩
  obtain ⟨rfl, rfl, rfl⟩ := whenIs_at (a := 20000) (b := 20001) (by decide) (by decide) (by decide) (by decide) hr (by decide) (by decide) (by decide) (by decide) (by decide) (by decide) (by decide)
  clear hr
  obtain ⟨hc8, hf8⟩ := bcell hb8
  have ha8 : w7.heap.size < w8.heap.size := by have := hb8.size; simp at this; omega
  have hz8 : w.heap.size + 1 < w8.heap.size := by omega
  have hy8 : w.heap.size < w8.heap.size := by omega
  have hB8 : Below w.heap.size w w8 := (hB7.alloc (by omega) _).trans (hb8.mono (by simp; omega))
  go_wp2_with fail
  refine (show_no 0 51 0 _ (by decide)).mono ?_
  rintro e w9 ⟨rfl, hb9⟩
  obtain ⟨hc9, hf9⟩ := bcell hb9
  have ha9 : w8.heap.size < w9.heap.size := by have := hb9.size; simp at this; omega
  have hs9 : w7.heap.size < w9.heap.size := by omega
  have hz9 : w.heap.size + 1 < w9.heap.size := by omega
  have hy9 : w.heap.size < w9.heap.size := by omega
  have hB9 : Below w.heap.size w w9 := (hB8.alloc (by omega) _).trans (hb9.mono (by simp; omega))
  go_wp2_with fail
  refine (valid_yes 0 50 _ (by decide) (by decide) (by decide) (by decide)).mono ?_
  rintro e w10 ⟨rfl, hb10⟩
  obtain ⟨hc10, hf10⟩ := bcell hb10
  have ha10 : w8.heap.size < w10.heap.size := by have := hb10.size; omega
  have hs10 : w7.heap.size < w10.heap.size := by omega
  have hB10 : Below w.heap.size w w10 := hB9.trans (hb10.mono (by omega))
  go_wp2_with fail
  refine (valid_no 1000000001 0 _ (by decide)).mono ?_
  rintro e w11 ⟨rfl, hb11⟩
  obtain ⟨hc11, hf11⟩ := bcell hb11
  have hB11 : Below w.heap.size w w11 := hB10.trans (hb11.mono (by omega))
  go_wp2_with fail
  go_ret
  exact ⟨rfl, hB11⟩

end Go.Proofs.Ytgaelpbchplmkaa
