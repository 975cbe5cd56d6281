import Derived.Test.YtgaelpbchplmkaaK
namespace Go.Proofs.Ytgaelpbchplmkaa
open Go.RowKit

theorem atZ_two (o d n : Int) (d1 : -50 ≤ d) (d2 : d ≤ 50) : atZ o d n + 1 ≤ atZ o d (n + 2) := by
  have e : d * (n + 2) = d * n + 2 * d := by rw [Int.mul_add]; omega
  unfold atZ
  rw [e]
  omega

theorem rwhen_out {o d s r : Int} (hv : ((-1000000000 ≤ o ∧ o ≤ 1000000000) ∧ (-50 ≤ d ∧ d ≤ 50))) (hl : LowOk o d s r) (hr : 10000000000000 < r) : WhenIs o d s 0 0 4 := by
  refine .inr (.inl ⟨hv, ?_, rfl, rfl, rfl⟩)
  intro n n0 n1 e
  have := hl n n0 (by omega)
  omega

theorem rwhen_not {o d s r : Int} (hv : ((-1000000000 ≤ o ∧ o ≤ 1000000000) ∧ (-50 ≤ d ∧ d ≤ 50))) (hl : LowOk o d s r) (hh : HighOk o d s r) (hr : r ≤ 10000000000000) (h : ¬ atZ o d r = s) : WhenIs o d s 0 0 4 := by
  refine .inr (.inl ⟨hv, ?_, rfl, rfl, rfl⟩)
  intro n n0 n1 e
  by_cases hn : n < r
  · have := hl n n0 hn
    omega
  · have h1 := hh r (by omega) hr
    have := atZ_mono o d r n hv.2.1 hv.2.2 (by omega)
    omega

theorem rwhen_two {o d s r : Int} (hv : ((-1000000000 ≤ o ∧ o ≤ 1000000000) ∧ (-50 ≤ d ∧ d ≤ 50))) (h0 : 0 ≤ r) (hl : LowOk o d s r) (hr : r < 10000000000000) (h : atZ o d r = s) (h' : atZ o d (r + 1) = s) : WhenIs o d s r (r + 1) 0 := by
  refine .inr (.inr ⟨hv, ⟨h0, by omega, by omega, ?_⟩, rfl⟩)
  intro n n0 n1
  constructor
  · intro e
    constructor
    · by_cases hn : n < r
      · have := hl n n0 hn
        omega
      · omega
    · by_cases hn : r + 2 ≤ n
      · have := atZ_mono o d (r + 2) n hv.2.1 hv.2.2 hn
        have := atZ_two o d r hv.2.1 hv.2.2
        omega
      · omega
  · rintro ⟨a, b⟩
    by_cases e : n = r
    · rw [e]; exact h
    · rw [show n = r + 1 from by omega]; exact h'

theorem rwhen_one {o d s r : Int} (hv : ((-1000000000 ≤ o ∧ o ≤ 1000000000) ∧ (-50 ≤ d ∧ d ≤ 50))) (h0 : 0 ≤ r) (hl : LowOk o d s r) (hr : r ≤ 10000000000000) (h : atZ o d r = s) (h' : r = 10000000000000 ∨ ¬ atZ o d (r + 1) = s) : WhenIs o d s r r 0 := by
  refine .inr (.inr ⟨hv, ⟨h0, by omega, by omega, ?_⟩, rfl⟩)
  intro n n0 n1
  constructor
  · intro e
    constructor
    · by_cases hn : n < r
      · have := hl n n0 hn
        omega
      · omega
    · by_cases hn : r + 1 ≤ n
      · have := atZ_mono o d (r + 1) n hv.2.1 hv.2.2 hn
        have := atZ_mono o d r (r + 1) hv.2.1 hv.2.2 (by omega)
        omega
      · omega
  · rintro ⟨a, b⟩
    rw [show n = r from by omega]; exact h

theorem rwhen_bad (o d s : Int) (w : World) (h : ¬ ((-1000000000 ≤ o ∧ o ≤ 1000000000) ∧ (-50 ≤ d ∧ d ≤ 50))) :
    Calls Try.prog 14 #[.agg #[.int .i64 o, .int .i64 d], .int .i64 s] w fun e w' => WhenRes o d s e ∧ Below w.heap.size w w' := by
  have H := Lib.hid h
  clear h
  go_enter Try.func14, Try.ntmps14
  go_wp2_with fail
  refine (rvalid_no _ _ _ H.out).mono ?_
  rintro e w1 ⟨rfl, hb⟩
  obtain ⟨hc, hf⟩ := bcell hb
  have hz : w.heap.size + 1 < w1.heap.size := by have := hb.size; simp at this; omega
  go_wp2_with fail
  refine bodyPost_ret (v := .tuple #[.agg #[.int .i64 0, .int .i64 0], .int .i64 1]) (by simp [results, Try.results14, go_sem, hc]) rfl ⟨⟨0, 0, 1, rfl, .inl ⟨H.out, rfl, rfl, rfl⟩⟩, ?_⟩
  exact (((((Below.refl _ _).alloc (Nat.le_refl _) _).alloc (by simp) _).trans (hb.mono (by simp; omega))).setCell (by simp) _).setCell (by simp) _

theorem rwhen_good (o d s : Int) (w : World) (o1 : -1000000000 ≤ o) (o2 : o ≤ 1000000000) (d1 : -50 ≤ d) (d2 : d ≤ 50) :
    Calls Try.prog 14 #[.agg #[.int .i64 o, .int .i64 d], .int .i64 s] w fun e w' => WhenRes o d s e ∧ Below w.heap.size w w' := by
  go_enter Try.func14, Try.ntmps14
  go_wp2_with fail
  refine (rvalid_yes _ _ _ o1 o2 d1 d2).mono ?_
  rintro e w1 ⟨rfl, hb⟩
  obtain ⟨hc, hf⟩ := bcell hb
  have hz : w.heap.size + 1 < w1.heap.size := by have := hb.size; simp at this; omega
  have hy : w.heap.size < w1.heap.size := by omega
  have hB1 : Below w.heap.size w w1 := (((Below.refl _ _).alloc (Nat.le_refl _) _).alloc (by simp) _).trans (hb.mono (by simp; omega))
  go_wp2_with fail
  refine (before_any _ _ _ _ o1 o2 d1 d2).mono ?_
  rintro e w2 ⟨⟨r, rfl, r0, r1, hl, hh⟩, hb2⟩
  obtain ⟨hc2, hf2⟩ := bcell hb2
  have hz2 : w.heap.size + 1 < w2.heap.size := by have := hb2.size; omega
  have hy2 : w.heap.size < w2.heap.size := by omega
  have hB2 : Below w.heap.size w w2 := hB1.trans (hb2.mono (by omega))
  by_cases hr : 10000000000000 < r
  · go_wp2_with fail
    refine bodyPost_ret (v := .tuple #[.agg #[.int .i64 0, .int .i64 0], .int .i64 4]) (by simp [results, Try.results14, go_sem, hc, hc2, hz]) rfl ⟨⟨0, 0, 4, rfl, rwhen_out ⟨⟨o1, o2⟩, d1, d2⟩ hl hr⟩, ?_⟩
    exact below_set2 hB2 (by omega)
  · have hr1 : r ≤ 10000000000000 := by omega
    clear hr
    go_wp2_with fail
    refine (rat_any _ _ _ _ o1 o2 d1 d2 (by omega) (by omega)).mono ?_
    rintro e w3 ⟨rfl, hb3⟩
    obtain ⟨hc3, hf3⟩ := bcell hb3
    have hz3 : w.heap.size + 1 < w3.heap.size := by have := hb3.size; omega
    have hy3 : w.heap.size < w3.heap.size := by omega
    have hB3 : Below w.heap.size w w3 := hB2.trans (hb3.mono (by omega))
    by_cases hs : atZ o d r = s
    · subst hs
      by_cases hm : r < 10000000000000
      · go_wp2_with fail
        refine (rat_any _ _ _ _ o1 o2 d1 d2 (by omega) (by omega)).mono ?_
        rintro e w4 ⟨rfl, hb4⟩
        obtain ⟨hc4, hf4⟩ := bcell hb4
        have hz4 : w.heap.size + 1 < w4.heap.size := by have := hb4.size; omega
        have hy4 : w.heap.size < w4.heap.size := by omega
        have hB4 : Below w.heap.size w w4 := hB3.trans (hb4.mono (by omega))
        by_cases hs2 : atZ o d (r + 1) = atZ o d r
        · have hs3 : (atZ o d (r + 1) == atZ o d r) = true := by simp [hs2]
          have H2 := Lib.hid hs2
          clear hs2
          go_wp2_with fail
          refine bodyPost_ret (v := .tuple #[.agg #[.int .i64 r, .int .i64 (r + 1)], .int .i64 0]) (by simp [results, Try.results14, go_sem, hc, hc2, hz, hc3, hz2, hc4, hz3]) rfl ⟨⟨r, r + 1, 0, rfl, rwhen_two ⟨⟨o1, o2⟩, d1, d2⟩ r0 hl hm rfl H2.out⟩, ?_⟩
          exact below_set2 hB4 (by omega)
        · have hs3 : (atZ o d (r + 1) == atZ o d r) = false := by simp [hs2]
          have H2 := Lib.hid hs2
          clear hs2
          go_wp2_with fail
          refine bodyPost_ret (v := .tuple #[.agg #[.int .i64 r, .int .i64 r], .int .i64 0]) (by simp [results, Try.results14, go_sem, hc, hc2, hz, hc3, hz2, hc4, hz3]) rfl ⟨⟨r, r, 0, rfl, rwhen_one ⟨⟨o1, o2⟩, d1, d2⟩ r0 hl hr1 rfl (.inr H2.out)⟩, ?_⟩
          exact below_set2 hB4 (by omega)
      · go_wp2_with fail
        refine bodyPost_ret (v := .tuple #[.agg #[.int .i64 r, .int .i64 r], .int .i64 0]) (by simp [results, Try.results14, go_sem, hc, hc2, hz, hc3, hz2]) rfl ⟨⟨r, r, 0, rfl, rwhen_one ⟨⟨o1, o2⟩, d1, d2⟩ r0 hl hr1 rfl (.inl (by omega))⟩, ?_⟩
        exact below_set2 hB3 (by omega)
    · have hs3 : (atZ o d r != s) = true := by simp [hs]
      have H2 := Lib.hid hs
      clear hs
      go_wp2_with fail
      refine bodyPost_ret (v := .tuple #[.agg #[.int .i64 0, .int .i64 0], .int .i64 4]) (by simp [results, Try.results14, go_sem, hc, hc2, hz, hc3, hz2]) rfl ⟨⟨0, 0, 4, rfl, rwhen_not ⟨⟨o1, o2⟩, d1, d2⟩ hl hh hr1 H2.out⟩, ?_⟩
      exact below_set2 hB3 (by omega)

theorem rwhen_any (o d s : Int) (w : World) :
    Calls Try.prog 14 #[.agg #[.int .i64 o, .int .i64 d], .int .i64 s] w fun e w' => WhenRes o d s e ∧ Below w.heap.size w w' := by
  by_cases h : ((-1000000000 ≤ o ∧ o ≤ 1000000000) ∧ (-50 ≤ d ∧ d ≤ 50))
  · exact rwhen_good o d s w h.1.1 h.1.2 h.2.1 h.2.2
  · exact rwhen_bad o d s w h

end Go.Proofs.Ytgaelpbchplmkaa
