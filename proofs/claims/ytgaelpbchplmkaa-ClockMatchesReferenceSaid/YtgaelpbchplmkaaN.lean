import Derived.Test.YtgaelpbchplmkaaL
namespace Go.Proofs.Ytgaelpbchplmkaa
open Go.RowKit

theorem rvalid_any (o d : Int) (w : World) :
    Calls Try.prog 16 #[.agg #[.int .i64 o, .int .i64 d]] w fun e w' => e = .returned (.bool (validB o d)) ∧ Below w.heap.size w w' := by
  by_cases h : ((-1000000000 ≤ o ∧ o ≤ 1000000000) ∧ (-50 ≤ d ∧ d ≤ 50))
  · have e : validB o d = true := decide_eq_true h
    rw [e]
    exact rvalid_yes o d w h.1.1 h.1.2 h.2.1 h.2.2
  · have e : validB o d = false := decide_eq_false h
    rw [e]
    exact rvalid_no o d w h

theorem showIs_one {o d t v er v' er' : Int} (h : ShowIs o d t v er) (h' : ShowIs o d t v' er') : v' = v ∧ er' = er := by
  rcases h with ⟨hv, ht, rfl, rfl⟩ | ⟨hn, rfl, rfl⟩
  · rcases h' with ⟨_, _, rfl, rfl⟩ | ⟨hn, rfl, rfl⟩
    · exact ⟨rfl, rfl⟩
    · exact absurd ⟨hv, ht⟩ hn
  · rcases h' with ⟨hv, ht, rfl, rfl⟩ | ⟨_, rfl, rfl⟩
    · exact absurd ⟨hv, ht⟩ hn
    · exact ⟨rfl, rfl⟩

theorem whenIs_one {o d s lo hi er lo' hi' er' : Int} (h : WhenIs o d s lo hi er) (h' : WhenIs o d s lo' hi' er') : lo' = lo ∧ hi' = hi ∧ er' = er := by
  rcases h with ⟨hn, rfl, rfl, rfl⟩ | ⟨hv, hn, rfl, rfl, rfl⟩ | ⟨hv, ⟨l0, lh, h1, h⟩, rfl⟩
  · rcases h' with ⟨_, rfl, rfl, rfl⟩ | ⟨hv, _⟩ | ⟨hv, _⟩
    · exact ⟨rfl, rfl, rfl⟩
    · exact absurd hv hn
    · exact absurd hv hn
  · rcases h' with ⟨hv', _⟩ | ⟨_, _, rfl, rfl, rfl⟩ | ⟨_, ⟨l0', lh', h1', h'⟩, rfl⟩
    · exact absurd hv hv'
    · exact ⟨rfl, rfl, rfl⟩
    · exact absurd ((h' lo' (by omega) (by omega)).2 ⟨by omega, by omega⟩) (hn lo' (by omega) (by omega))
  · rcases h' with ⟨hv', _⟩ | ⟨_, hn, rfl, rfl, rfl⟩ | ⟨_, ⟨l0', lh', h1', h'⟩, rfl⟩
    · exact absurd hv hv'
    · exact absurd ((h lo (by omega) (by omega)).2 ⟨by omega, by omega⟩) (hn lo (by omega) (by omega))
    · have e1 := (h' lo (by omega) (by omega)).1 ((h lo (by omega) (by omega)).2 ⟨by omega, by omega⟩)
      have e2 := (h' hi (by omega) (by omega)).1 ((h hi (by omega) (by omega)).2 ⟨by omega, by omega⟩)
      have e3 := (h lo' (by omega) (by omega)).1 ((h' lo' (by omega) (by omega)).2 ⟨by omega, by omega⟩)
      have e4 := (h hi' (by omega) (by omega)).1 ((h' hi' (by omega) (by omega)).2 ⟨by omega, by omega⟩)
      exact ⟨by omega, by omega, rfl⟩

/-- What the last test reads: the clock and the two ranges, and that nothing older has changed. -/
def Kept3 (n : Nat) (w0 : World) (b4 b5 : Nat) (o d lo hi : Int) (W : World) : Prop :=
  W.cell? ⟨n, 0, none⟩ = some (.int .i64 o) ∧ W.cell? ⟨n, 1, none⟩ = some (.int .i64 d) ∧
  W.cell? ⟨b4, 0, none⟩ = some (.int .i64 lo) ∧ W.cell? ⟨b4, 1, none⟩ = some (.int .i64 hi) ∧
  W.cell? ⟨b5, 0, none⟩ = some (.int .i64 lo) ∧ W.cell? ⟨b5, 1, none⟩ = some (.int .i64 hi) ∧ Below n w0 W ∧ n ≤ b4 ∧ b4 < b5 ∧ b5 < W.heap.size

theorem Kept3.on {n : Nat} {w0 : World} {b4 b5 : Nat} {o d lo hi : Int} {W W' : World} (h : Kept3 n w0 b4 b5 o d lo hi W) (hb : Below W.heap.size W W') : Kept3 n w0 b4 b5 o d lo hi W' := by
  obtain ⟨h1, h2, h3, h4, h5, h6, h7, h8, h9, h10⟩ := h
  have hc := (bcell hb).1
  exact ⟨(hc _ _ (by omega)).trans h1, (hc _ _ (by omega)).trans h2, (hc _ _ (by omega)).trans h3, (hc _ _ (by omega)).trans h4, (hc _ _ (by omega)).trans h5, (hc _ _ (by omega)).trans h6, h7.trans (hb.mono (by omega)), h8, h9, by have := hb.size; omega⟩

theorem valid_kept {n : Nat} {w0 : World} {b4 b5 : Nat} {o d lo hi : Int} {W : World} (h : Kept3 n w0 b4 b5 o d lo hi W) :
    Calls Try.prog 15 #[.agg #[.int .i64 o, .int .i64 d]] W fun e w' => e = .returned (.bool (validB o d)) ∧ Kept3 n w0 b4 b5 o d lo hi w' :=
  (valid_any o d W).mono fun _ _ ⟨he, hb⟩ => ⟨he, h.on hb⟩

theorem rvalid_kept {n : Nat} {w0 : World} {b4 b5 : Nat} {o d lo hi : Int} {W : World} (h : Kept3 n w0 b4 b5 o d lo hi W) :
    Calls Try.prog 16 #[.agg #[.int .i64 o, .int .i64 d]] W fun e w' => e = .returned (.bool (validB o d)) ∧ Kept3 n w0 b4 b5 o d lo hi w' :=
  (rvalid_any o d W).mono fun _ _ ⟨he, hb⟩ => ⟨he, h.on hb⟩

set_option maxHeartbeats 1000000 in
theorem ClockMatchesReference_walk (o d t s : Int) (w : World) (wt : (Lit.int .i64 t).wf = true) (ws : (Lit.int .i64 s).wf = true) :
    Calls Try.prog 3 #[.agg #[.int .i64 o, .int .i64 d], .int .i64 t, .int .i64 s] w fun e w' => e = .returned (.bool true) ∧ Below w.heap.size w w' := by
  clear wt ws
  go_enter Try.func3, Try.ntmps3
  go_wp2_with fail
  refine (head_any _).mono ?_
  rintro e w1 ⟨rfl, hb⟩
  obtain ⟨hc, hf⟩ := bcell hb
  have hz : w.heap.size < w1.heap.size := by have := hb.size; simp at this; omega
  have hB1 : Below w.heap.size w w1 := ((Below.refl _ _).alloc (Nat.le_refl _) _).trans (hb.mono (by simp))
  go_wp2_with fail
  refine (show_any _ _ _ _).mono ?_
  rintro e w2 ⟨⟨a, er, rfl, ha⟩, hb2⟩
  obtain ⟨hc2, hf2⟩ := bcell hb2
  have hz2 : w.heap.size < w2.heap.size := by have := hb2.size; omega
  have hB2 : Below w.heap.size w w2 := hB1.trans (hb2.mono (by omega))
  go_wp2_with fail
  refine (rshow_any _ _ _ _).mono ?_
  rintro e w3 ⟨⟨a', er', rfl, ha'⟩, hb3⟩
  obtain ⟨hc3, hf3⟩ := bcell hb3
  have hz3 : w.heap.size < w3.heap.size := by have := hb3.size; omega
  have hB3 : Below w.heap.size w w3 := hB2.trans (hb3.mono (by omega))
  obtain ⟨rfl, rfl⟩ := showIs_one ha ha'
  clear ha ha'
  go_wp2_with fail
  refine (when_any _ _ _ _).mono ?_
  rintro e w4 ⟨⟨lo, hi, eg, rfl, hr⟩, hb4⟩
  obtain ⟨hc4, hf4⟩ := bcell hb4
  have hz4 : w.heap.size < w4.heap.size := by have := hb4.size; omega
  have hB4 : Below w.heap.size w w4 := hB3.trans (hb4.mono (by omega))
  go_wp2_with fail
  refine (rwhen_any _ _ _ _).mono ?_
  rintro e w5 ⟨⟨lo', hi', eg', rfl, hr'⟩, hb5⟩
  obtain ⟨hc5, hf5⟩ := bcell hb5
  have hy5 : w4.heap.size < w5.heap.size := by have := hb5.size; simp at this; omega
  have hz5 : w.heap.size < w5.heap.size := by omega
  have hB5 : Below w.heap.size w w5 := (hB4.alloc (by omega) _).trans (hb5.mono (by simp; omega))
  obtain ⟨rfl, rfl, rfl⟩ := whenIs_one hr hr'
  clear hr hr'
  have K0 : Kept3 w.heap.size w w4.heap.size w5.heap.size o d lo' hi' (w5.alloc (.cells #[.int .i64 lo', .int .i64 hi'] 29)) := by
    have hn : (w.alloc (.cells #[.int .i64 o, .int .i64 d] 23)).heap.size = w.heap.size + 1 := by simp
    have hn4 : (w4.alloc (.cells #[.int .i64 lo', .int .i64 hi'] 29)).heap.size = w4.heap.size + 1 := by simp
    have k4 : Below (w4.heap.size + 1) (w4.alloc (.cells #[.int .i64 lo', .int .i64 hi'] 29)) (w5.alloc (.cells #[.int .i64 lo', .int .i64 hi'] 29)) := (hb5.mono (by omega)).alloc (by omega) _
    have k0 : Below (w.heap.size + 1) (w.alloc (.cells #[.int .i64 o, .int .i64 d] 23)) (w5.alloc (.cells #[.int .i64 lo', .int .i64 hi'] 29)) :=
      ((((hb.mono (by omega)).trans (hb2.mono (by omega))).trans (hb3.mono (by omega))).trans (hb4.mono (by omega))).trans ((((Below.refl _ _).alloc (by omega) _).trans (hb5.mono (by omega))).alloc (by omega) _)
    refine ⟨(k0.cell (p := ⟨w.heap.size, 0, none⟩) (Nat.lt_succ_self _)).trans (by simp), (k0.cell (p := ⟨w.heap.size, 1, none⟩) (Nat.lt_succ_self _)).trans (by simp),
      (k4.cell (p := ⟨w4.heap.size, 0, none⟩) (Nat.lt_succ_self _)).trans (by simp), (k4.cell (p := ⟨w4.heap.size, 1, none⟩) (Nat.lt_succ_self _)).trans (by simp),
      by simp, by simp, hB5.alloc (by omega) _, by omega, hy5, by simp⟩
  go_wp2_with fail
  obtain ⟨W, hW⟩ : ∃ W, W = w5.alloc (.cells #[.int .i64 lo', .int .i64 hi'] 29) := ⟨_, rfl⟩
  rw [← hW] at K0 ⊢
  clear hW hc hf hc2 hf2 hc3 hf3 hc4 hf4 hc5 hf5 hb hb2 hb3 hb4 hb5
  generalize hn : w.heap.size = n at *
  generalize hb4 : w4.heap.size = b4 at *
  generalize hb5 : w5.heap.size = b5 at *
  have HN := Lib.hid hn
  clear hn hb4 hb5
  obtain ⟨g1, g2, g3, g4, g5, g6, g7⟩ := K0
  go_region_held3 (fun W' => W'.cell? ⟨n, 0, none⟩ = some (.int .i64 o) ∧ W'.cell? ⟨n, 1, none⟩ = some (.int .i64 d) ∧
    W'.cell? ⟨b4, 0, none⟩ = some (.int .i64 lo') ∧ W'.cell? ⟨b4, 1, none⟩ = some (.int .i64 hi') ∧
    W'.cell? ⟨b5, 0, none⟩ = some (.int .i64 lo') ∧ W'.cell? ⟨b5, 1, none⟩ = some (.int .i64 hi') ∧ Below n w W' ∧ n ≤ b4 ∧ b4 < b5 ∧ b5 < W'.heap.size) (first | exact ⟨g1, g2, g3, g4, g5, g6, g7.1.drew, g7.2⟩ | assumption)
    (first
      | (go_at_call 15; refine (valid_kept (by assumption)).mono ?_; rintro e w' ⟨rfl, hS⟩)
      | (go_at_call 16; refine (rvalid_kept (by assumption)).mono ?_; rintro e w' ⟨rfl, hS⟩))
  obtain ⟨_, _, _, _, _, _, hlast, _⟩ := hS
  go_wp2_with fail
  go_ret
  exact ⟨rfl, by rw [HN.out]; exact hlast⟩

end Go.Proofs.Ytgaelpbchplmkaa
