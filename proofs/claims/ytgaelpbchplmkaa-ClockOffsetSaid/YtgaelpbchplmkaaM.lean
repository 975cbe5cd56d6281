import Derived.Test.YtgaelpbchplmkaaI
namespace Go.Proofs.Ytgaelpbchplmkaa
open Go.RowKit

theorem ClockOffset_walk (o d t s m : Int) (w : World) (wt : (Lit.int .i64 t).wf = true) (ws : (Lit.int .i64 s).wf = true) (wm : (Lit.int .i64 m).wf = true) :
    Calls Try.prog 9 #[.agg #[.int .i64 o, .int .i64 d], .int .i64 t, .int .i64 s, .int .i64 m] w fun e w' => e = .returned (.bool true) ∧ Below w.heap.size w w' := by
  clear wt ws wm
  go_enter Try.func9, Try.ntmps9
  go_wp2_with fail
  refine (head_any _).mono ?_
  rintro e w1 ⟨rfl, hb⟩
  obtain ⟨hc, hf⟩ := bcell hb
  have hz : w.heap.size < w1.heap.size := by have := hb.size; simp at this; omega
  have hB1 : Below w.heap.size w w1 := ((Below.refl _ _).alloc (Nat.le_refl _) _).trans (hb.mono (by simp))
  go_wp2_with fail
  by_cases hv : (-1000000000 ≤ o ∧ o ≤ 1000000000) ∧ (-50 ≤ d ∧ d ≤ 50)
  · obtain ⟨⟨o1, o2⟩, d1, d2⟩ := hv
    refine (valid_yes _ _ _ o1 o2 d1 d2).mono ?_
    rintro e w2 ⟨rfl, hb2⟩
    obtain ⟨hc2, hf2⟩ := bcell hb2
    have hz2 : w.heap.size < w2.heap.size := by have := hb2.size; omega
    have hB2 : Below w.heap.size w w2 := hB1.trans (hb2.mono (by omega))
    by_cases hm : m < 0
    · go_wp2_with fail
      go_ret
      exact ⟨rfl, hB2⟩
    have hm0 : 0 ≤ m := by omega
    clear hm
    by_cases hmo : 1000000000 - o < m
    · go_wp2_with fail
      go_ret
      exact ⟨rfl, hB2⟩
    have hmo0 : o + m ≤ 1000000000 := by omega
    by_cases hs1 : 1152921504606846976 < s
    · go_wp2_with fail
      go_ret
      exact ⟨rfl, hB2⟩
    by_cases hs2 : s < -1152921504606846976
    · go_wp2_with fail
      go_ret
      exact ⟨rfl, hB2⟩
    go_wp2_with fail
    refine (show_any _ _ _ _).mono ?_
    rintro e w3 ⟨⟨a, er, rfl, ha⟩, hb3⟩
    obtain ⟨hc3, hf3⟩ := bcell hb3
    have hy3 : w2.heap.size < w3.heap.size := by have := hb3.size; simp at this; omega
    have hz3 : w.heap.size < w3.heap.size := by omega
    have hB3 : Below w.heap.size w w3 := (hB2.alloc (by omega) _).trans (hb3.mono (by simp; omega))
    go_wp2_with fail
    refine (show_any _ _ _ _).mono ?_
    rintro e w4 ⟨⟨b, er', rfl, hb'⟩, hb4⟩
    obtain ⟨hc4, hf4⟩ := bcell hb4
    have hy4 : w2.heap.size < w4.heap.size := by have := hb4.size; omega
    have hz4 : w.heap.size < w4.heap.size := by omega
    have hB4 : Below w.heap.size w w4 := hB3.trans (hb4.mono (by omega))
    have hsh := showIs_off hm0 hmo0 ⟨⟨o1, o2⟩, d1, d2⟩ ha hb'
    clear ha hb'
    have HS := Lib.hid hsh
    clear hsh
    go_wp2_with fail
    refine (when_any _ _ _ _).mono ?_
    rintro e w5 ⟨⟨lo, hi, eg, rfl, hr⟩, hb5⟩
    obtain ⟨hc5, hf5⟩ := bcell hb5
    have hy5 : w2.heap.size < w5.heap.size := by have := hb5.size; omega
    have hz5 : w.heap.size < w5.heap.size := by omega
    have hB5 : Below w.heap.size w w5 := hB4.trans (hb5.mono (by omega))
    go_wp2_with fail
    refine (when_any _ _ _ _).mono ?_
    rintro e w6 ⟨⟨lo', hi', eg', rfl, hr'⟩, hb6⟩
    obtain ⟨hc6, hf6⟩ := bcell hb6
    have hy6 : w5.heap.size < w6.heap.size := by have := hb6.size; simp at this; omega
    have hB6 : Below w.heap.size w w6 := (hB5.alloc (by omega) _).trans (hb6.mono (by simp; omega))
    obtain ⟨rfl, rfl, rfl⟩ := whenIs_off hm0 hmo0 ⟨⟨o1, o2⟩, d1, d2⟩ hr hr'
    clear hr hr'
    rcases HS.out with ⟨rfl, rfl, rfl, k1, k2⟩ | ⟨rfl, rfl, rfl, rfl⟩
    · go_wp2_with fail
      go_ret
      exact ⟨by simp, hB6.alloc (by omega) _⟩
    · go_wp2_with fail
      go_ret
      exact ⟨by simp, hB6.alloc (by omega) _⟩
  · have H := Lib.hid hv
    clear hv
    refine (valid_no _ _ _ H.out).mono ?_
    rintro e w2 ⟨rfl, hb2⟩
    have hB2 : Below w.heap.size w w2 := hB1.trans (hb2.mono (by omega))
    go_wp2_with fail
    go_ret
    exact ⟨rfl, hB2⟩

end Go.Proofs.Ytgaelpbchplmkaa
