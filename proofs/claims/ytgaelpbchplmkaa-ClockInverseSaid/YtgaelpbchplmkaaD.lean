import Derived.Test.YtgaelpbchplmkaaC
namespace Go.Proofs.Ytgaelpbchplmkaa
open Go.RowKit

/-- At just the true times from 'lo' to 'hi' the clock shows 's'. -/
def WhenOk (o d s lo hi : Int) : Prop := 0 ≤ lo ∧ lo ≤ hi ∧ hi ≤ 10000000000000 ∧ ∀ n, 0 ≤ n → n ≤ 10000000000000 → (atZ o d n = s ↔ lo ≤ n ∧ n ≤ hi)
def WhenNone (o d s : Int) : Prop := ∀ n, 0 ≤ n → n ≤ 10000000000000 → atZ o d n ≠ s
/-- What 'When' answers: the range and the error. -/
def WhenIs (o d s lo hi er : Int) : Prop :=
  (¬ ((-1000000000 ≤ o ∧ o ≤ 1000000000) ∧ (-50 ≤ d ∧ d ≤ 50)) ∧ lo = 0 ∧ hi = 0 ∧ er = 1) ∨
  (((-1000000000 ≤ o ∧ o ≤ 1000000000) ∧ (-50 ≤ d ∧ d ≤ 50)) ∧ WhenNone o d s ∧ lo = 0 ∧ hi = 0 ∧ er = 4) ∨
  (((-1000000000 ≤ o ∧ o ≤ 1000000000) ∧ (-50 ≤ d ∧ d ≤ 50)) ∧ WhenOk o d s lo hi ∧ er = 0)
/-- The result of 'When' in the walk's form. -/
def WhenRes (o d s : Int) (e : Ending) : Prop := ∃ lo hi er : Int, e = .returned (.tuple #[.agg #[.int .i64 lo, .int .i64 hi], .int .i64 er]) ∧ WhenIs o d s lo hi er

theorem whenIs_ok {o d s r q : Int} (hv : ((-1000000000 ≤ o ∧ o ≤ 1000000000) ∧ (-50 ≤ d ∧ d ≤ 50))) (r0 : 0 ≤ r) (q1 : q ≤ 10000000000001) (h1 : LowOk o d s r) (h2 : HighOk o d s r) (h3 : LowOk o d (s + 1) q) (h4 : HighOk o d (s + 1) q)
    (h : r ≤ q - 1) : WhenIs o d s r (q - 1) 0 := by
  refine .inr (.inr ⟨hv, ⟨r0, h, by omega, ?_⟩, rfl⟩)
  intro n n0 n1
  constructor
  · intro e
    constructor
    · by_cases hn : r ≤ n
      · exact hn
      · have := h1 n n0 (by omega); omega
    · by_cases hn : n ≤ q - 1
      · exact hn
      · have := h4 n (by omega) n1; omega
  · rintro ⟨a, b⟩
    have := h2 n a n1
    have := h3 n n0 (by omega)
    omega

theorem whenIs_none {o d s r q : Int} (hv : ((-1000000000 ≤ o ∧ o ≤ 1000000000) ∧ (-50 ≤ d ∧ d ≤ 50))) (h1 : LowOk o d s r) (h4 : HighOk o d (s + 1) q)
    (h : ¬ r ≤ q - 1) : WhenIs o d s 0 0 4 := by
  refine .inr (.inl ⟨hv, ?_, rfl, rfl, rfl⟩)
  intro n n0 n1 e
  by_cases hn : n < r
  · have := h1 n n0 hn; omega
  · have := h4 n (by omega) n1; omega

theorem below_set2 {n b : Nat} {w W : World} {x y : Value} (hB : Below n w W) (h : n ≤ b) : Below n w ((W.setCell ⟨b, 0, none⟩ x).setCell ⟨b, 1, none⟩ y) :=
  (hB.setCell (p := ⟨b, 0, none⟩) h _).setCell (p := ⟨b, 1, none⟩) h _

theorem when_bad (o d s : Int) (w : World) (h : ¬ ((-1000000000 ≤ o ∧ o ≤ 1000000000) ∧ (-50 ≤ d ∧ d ≤ 50))) :
    Calls Try.prog 13 #[.agg #[.int .i64 o, .int .i64 d], .int .i64 s] w fun e w' => WhenRes o d s e ∧ Below w.heap.size w w' := by
  have H := Lib.hid h
  clear h
  go_enter Try.func13, Try.ntmps13
  go_wp2_with fail
  refine (valid_no _ _ _ H.out).mono ?_
  rintro e w1 ⟨rfl, hb⟩
  obtain ⟨hc, hf⟩ := bcell hb
  have hz : w.heap.size + 1 < w1.heap.size := by have := hb.size; simp at this; omega
  go_wp2_with fail
  refine bodyPost_ret (v := .tuple #[.agg #[.int .i64 0, .int .i64 0], .int .i64 1]) (by simp [results, Try.results13, go_sem, hc]) rfl ⟨⟨0, 0, 1, rfl, .inl ⟨H.out, rfl, rfl, rfl⟩⟩, ?_⟩
  exact (((((Below.refl _ _).alloc (Nat.le_refl _) _).alloc (by simp) _).trans (hb.mono (by simp; omega))).setCell (by simp) _).setCell (by simp) _

theorem when_good (o d s : Int) (w : World) (o1 : -1000000000 ≤ o) (o2 : o ≤ 1000000000) (d1 : -50 ≤ d) (d2 : d ≤ 50) :
    Calls Try.prog 13 #[.agg #[.int .i64 o, .int .i64 d], .int .i64 s] w fun e w' => WhenRes o d s e ∧ Below w.heap.size w w' := by
  go_enter Try.func13, Try.ntmps13
  go_wp2_with fail
  refine (valid_yes _ _ _ o1 o2 d1 d2).mono ?_
  rintro e w1 ⟨rfl, hb⟩
  obtain ⟨hc, hf⟩ := bcell hb
  have hz : w.heap.size + 1 < w1.heap.size := by have := hb.size; simp at this; omega
  have hB1 : Below w.heap.size w w1 := (((Below.refl _ _).alloc (Nat.le_refl _) _).alloc (by simp) _).trans (hb.mono (by simp; omega))
  go_wp2_with fail
  refine (at_any _ _ _ _ o1 o2 d1 d2 (by omega) (by omega)).mono ?_
  rintro e w2 ⟨rfl, hb2⟩
  obtain ⟨hc2, hf2⟩ := bcell hb2
  have hz2 : w.heap.size + 1 < w2.heap.size := by have := hb2.size; omega
  have hB2 : Below w.heap.size w w2 := hB1.trans (hb2.mono (by omega))
  by_cases hs0 : s < atZ o d 0
  · go_wp2_with fail
    refine bodyPost_ret (v := .tuple #[.agg #[.int .i64 0, .int .i64 0], .int .i64 4]) (by simp [results, Try.results13, go_sem, hc, hc2, hz]) rfl ⟨⟨0, 0, 4, rfl, .inr (.inl ⟨⟨⟨o1, o2⟩, d1, d2⟩, ?_, rfl, rfl, rfl⟩)⟩, ?_⟩
    · intro n n0 n1 e
      have := atZ_mono o d 0 n d1 d2 n0
      omega
    · exact (hB2.setCell (by simp) _).setCell (by simp) _
  · go_wp2_with fail
    refine (at_any _ _ _ _ o1 o2 d1 d2 (by omega) (by omega)).mono ?_
    rintro e w3 ⟨rfl, hb3⟩
    obtain ⟨hc3, hf3⟩ := bcell hb3
    have hz3 : w.heap.size + 1 < w3.heap.size := by have := hb3.size; omega
    have hB3 : Below w.heap.size w w3 := hB2.trans (hb3.mono (by omega))
    by_cases hs1 : atZ o d 10000000000000 < s
    · go_wp2_with fail
      refine bodyPost_ret (v := .tuple #[.agg #[.int .i64 0, .int .i64 0], .int .i64 4]) (by simp [results, Try.results13, go_sem, hc, hc2, hz, hc3, hz2]) rfl ⟨⟨0, 0, 4, rfl, .inr (.inl ⟨⟨⟨o1, o2⟩, d1, d2⟩, ?_, rfl, rfl, rfl⟩)⟩, ?_⟩
      · intro n n0 n1 e
        have := atZ_mono o d n 10000000000000 d1 d2 n1
        omega
      · exact (hB3.setCell (by simp) _).setCell (by simp) _
    · have hbd0 := atZ_bd o d 0 o1 o2 d1 d2 (by omega) (by omega)
      have hbd1 := atZ_bd o d 10000000000000 o1 o2 d1 d2 (by omega) (by omega)
      go_wp2_with fail
      refine (first_any _ _ _ _ o1 o2 d1 d2).mono ?_
      rintro e w4 ⟨⟨r, rfl, r0, r1, hl, hh⟩, hb4⟩
      obtain ⟨hc4, hf4⟩ := bcell hb4
      have hz4 : w.heap.size + 1 < w4.heap.size := by have := hb4.size; omega
      have hB4 : Below w.heap.size w w4 := hB3.trans (hb4.mono (by omega))
      go_wp2_with fail
      refine (first_any _ _ _ _ o1 o2 d1 d2).mono ?_
      rintro e w5 ⟨⟨q, rfl, q0, q1, hl5, hh5⟩, hb5⟩
      obtain ⟨hc5, hf5⟩ := bcell hb5
      have hz5 : w.heap.size + 1 < w5.heap.size := by have := hb5.size; omega
      have hB5 : Below w.heap.size w w5 := hB4.trans (hb5.mono (by omega))
      by_cases hrq : r ≤ q - 1
      · go_wp2_with fail
        refine bodyPost_ret (v := .tuple #[.agg #[.int .i64 r, .int .i64 (q - 1)], .int .i64 0]) (by simp [results, Try.results13, go_sem, hc, hc2, hz, hc3, hz2, hc4, hc5, hz3, hz4, hz5]) rfl ⟨⟨r, q - 1, 0, rfl, whenIs_ok ⟨⟨o1, o2⟩, d1, d2⟩ r0 q1 hl hh hl5 hh5 hrq⟩, ?_⟩
        exact (below_set2 hB5 (by omega)).alloc (by simp; omega) _
      · go_wp2_with fail
        refine bodyPost_ret (v := .tuple #[.agg #[.int .i64 0, .int .i64 0], .int .i64 4]) (by simp [results, Try.results13, go_sem, hc, hc2, hz, hc3, hz2, hc4, hc5, hz3, hz4, hz5]) rfl ⟨⟨0, 0, 4, rfl, whenIs_none ⟨⟨o1, o2⟩, d1, d2⟩ hl hh5 (by omega)⟩, ?_⟩
        exact (below_set2 hB5 (by omega)).alloc (by simp; omega) _

end Go.Proofs.Ytgaelpbchplmkaa
