import Derived.Test.YtgaelpbchplmkaaL
namespace Go.Proofs.Ytgaelpbchplmkaa
open Go.RowKit

theorem whenIs_of {o d t lo hi er : Int} (hv : (-1000000000 ≤ o ∧ o ≤ 1000000000) ∧ (-50 ≤ d ∧ d ≤ 50)) (t1 : 0 ≤ t) (t2 : t ≤ 10000000000000) (h : WhenIs o d (atZ o d t) lo hi er) : er = 0 ∧ lo ≤ t ∧ t ≤ hi := by
  rcases h with ⟨hn, _⟩ | ⟨_, hn, _⟩ | ⟨_, ⟨_, _, _, h⟩, rfl⟩
  · exact absurd hv hn
  · exact absurd rfl (hn t t1 t2)
  · exact ⟨rfl, (h t t1 t2).1 rfl⟩

set_option maxHeartbeats 1000000 in
set_option maxRecDepth 100000 in
theorem Inverse_in (o d t s : Int) (w : World) (o1 : -1000000000 ≤ o) (o2 : o ≤ 1000000000) (d1 : -50 ≤ d) (d2 : d ≤ 50) (t1 : 0 ≤ t) (t2 : t ≤ 10000000000000) :
    Calls Try.prog 6 #[.agg #[.int .i64 o, .int .i64 d], .int .i64 t, .int .i64 s] w fun e w' => e = .returned (.bool true) ∧ Below w.heap.size w w' := by
  go_enter Try.func6, Try.ntmps6
  go_wp2_with fail
  refine (head_any _).mono ?_
  rintro e w1 ⟨rfl, hb⟩
  obtain ⟨hc, hf⟩ := bcell hb
  have hz : w.heap.size < w1.heap.size := by have := hb.size; simp at this; omega
  have hB1 : Below w.heap.size w w1 := ((Below.refl _ _).alloc (Nat.le_refl _) _).trans (hb.mono (by simp))
  go_wp2_with fail
  refine (show_yes _ _ _ _ o1 o2 d1 d2 t1 t2).mono ?_
  rintro e w2 ⟨rfl, hb2⟩
  obtain ⟨hc2, hf2⟩ := bcell hb2
  have hz2 : w.heap.size < w2.heap.size := by have := hb2.size; omega
  have hB2 : Below w.heap.size w w2 := hB1.trans (hb2.mono (by omega))
  go_wp2_with fail
  refine (when_any _ _ _ _).mono ?_
  rintro e w3 ⟨⟨lo0, hi0, eg0, rfl, hr0⟩, hb3⟩
  obtain ⟨hc3, hf3⟩ := bcell hb3
  have hz3 : w.heap.size < w3.heap.size := by have := hb3.size; omega
  have hB3 : Below w.heap.size w w3 := hB2.trans (hb3.mono (by omega))
  obtain ⟨rfl, x1, x2⟩ := whenIs_of ⟨⟨o1, o2⟩, d1, d2⟩ t1 t2 hr0
  clear hr0
  go_wp2_with fail
  refine (when_any _ _ _ _).mono ?_
  rintro e w4 ⟨⟨lo, hi, eg, rfl, hr⟩, hb4⟩
  obtain ⟨hc4, hf4⟩ := bcell hb4
  have hz4 : w.heap.size < w4.heap.size := by have := hb4.size; first | omega | (simp at this; omega)
  have hB4 : Below w.heap.size w w4 := (hB3.alloc (by omega) _).trans (hb4.mono (by simp; try omega))
  have g0 : w4.cell? ⟨w.heap.size, 0, none⟩ = some (.int .i64 o) := (hc4 _ _ (by simp; omega)).trans ((((Below.refl _ w3).alloc (Nat.le_refl _) _).cell (p := ⟨w.heap.size, 0, none⟩) hz3).trans ((hc3 _ _ hz2).trans ((hc2 _ _ hz).trans ((hc _ _ (by simp)).trans (by simp)))))
  have g1 : w4.cell? ⟨w.heap.size, 1, none⟩ = some (.int .i64 d) := (hc4 _ _ (by simp; omega)).trans ((((Below.refl _ w3).alloc (Nat.le_refl _) _).cell (p := ⟨w.heap.size, 1, none⟩) hz3).trans ((hc3 _ _ hz2).trans ((hc2 _ _ hz).trans ((hc _ _ (by simp)).trans (by simp)))))
  rcases hr with ⟨hn, rfl, rfl, rfl⟩ | ⟨hv, hn, rfl, rfl, rfl⟩ | ⟨hv, hok, rfl⟩
  · exact absurd ⟨⟨o1, o2⟩, d1, d2⟩ hn
  · have hs : (atZ o d t != s) = true := by rw [bne_iff_ne]; exact hn t t1 t2
    clear hn
    go_wp2_with fail
    go_ret
    exact ⟨rfl, hB4.alloc (by omega) _⟩
  · obtain ⟨⟨o1, o2⟩, d1, d2⟩ := hv
    have HS := hok.2.2.2
    obtain ⟨l0, lh, h1, _⟩ := hok
    have hl2 : hi ≤ lo + 1 := by
      by_cases hl2 : hi ≤ lo + 1
      · exact hl2
      · have e1 := (HS lo (by omega) (by omega)).2 ⟨by omega, by omega⟩
        have e2 := (HS (lo + 2) (by omega) (by omega)).2 ⟨by omega, by omega⟩
        have := atZ_two o d lo d1 d2
        omega
    have HS' := Lib.hid HS
    clear HS
    go_wp2_with fail
    obtain ⟨W, hW⟩ : ∃ W, W = w4.alloc (.cells #[.int .i64 lo, .int .i64 hi] 29) := ⟨_, rfl⟩
    have k0 : W.cell? ⟨w.heap.size, 0, none⟩ = some (.int .i64 o) := by rw [hW]; exact (((Below.refl _ w4).alloc (Nat.le_refl _) _).cell (p := ⟨w.heap.size, 0, none⟩) hz4).trans g0
    have k1 : W.cell? ⟨w.heap.size, 1, none⟩ = some (.int .i64 d) := by rw [hW]; exact (((Below.refl _ w4).alloc (Nat.le_refl _) _).cell (p := ⟨w.heap.size, 1, none⟩) hz4).trans g1
    have k2 : W.cell? ⟨w4.heap.size, 0, none⟩ = some (.int .i64 lo) := by rw [hW]; simp
    have k3 : W.cell? ⟨w4.heap.size, 1, none⟩ = some (.int .i64 hi) := by rw [hW]; simp
    have k4 : Below w.heap.size w W := by rw [hW]; exact hB4.alloc (by omega) _
    have k5 : w4.heap.size < W.heap.size := by rw [hW]; simp
    rw [← hW]
    clear hW hc hf hc2 hf2 hc3 hf3 hc4 hf4 hb hb2 hb3 hb4 hB1 hB2 hB3 g0 g1 hB4
    go_loopw [7, 14] (fun u i wr => ∃ k : Int, u = .bool true ∧ i = .int .i64 k ∧ lo - 1 ≤ k ∧ k ≤ hi + 2 ∧ wr.cell? ⟨w.heap.size, 0, none⟩ = some (.int .i64 o) ∧ wr.cell? ⟨w.heap.size, 1, none⟩ = some (.int .i64 d) ∧
      wr.cell? ⟨w4.heap.size, 0, none⟩ = some (.int .i64 lo) ∧ wr.cell? ⟨w4.heap.size, 1, none⟩ = some (.int .i64 hi) ∧ Below w.heap.size w wr ∧ w4.heap.size < wr.heap.size)
      (fun _ i _ => (hi + 2 - intOf i).toNat)
    case atStart => exact ⟨lo - 1, rfl, rfl, by omega, by omega, k0, k1, k2, k3, k4, k5⟩
    case round =>
      clear k0 k1 k2 k3 k4 k5
      obtain ⟨k, rfl, rfl, m0, m1, k0, k1, k2, k3, k4, k5⟩ := hrel
      by_cases hx : k ≤ hi + 1
      · by_cases hin : 0 ≤ k ∧ k ≤ 10000000000000
        · obtain ⟨i0, i1⟩ := hin
          have hS := HS'.out k i0 i1
          have hS' := Lib.hid hS
          clear hS
          go_wp2_with fail
          refine (show_yes _ _ _ _ o1 o2 d1 d2 i0 i1).mono ?_
          rintro e w5 ⟨rfl, hb5⟩
          have j0 : w5.cell? ⟨w.heap.size, 0, none⟩ = some (.int .i64 o) := ((bcell hb5).1 _ _ (by omega)).trans k0
          have j1 : w5.cell? ⟨w.heap.size, 1, none⟩ = some (.int .i64 d) := ((bcell hb5).1 _ _ (by omega)).trans k1
          have j2 : w5.cell? ⟨w4.heap.size, 0, none⟩ = some (.int .i64 lo) := ((bcell hb5).1 _ _ (by omega)).trans k2
          have j3 : w5.cell? ⟨w4.heap.size, 1, none⟩ = some (.int .i64 hi) := ((bcell hb5).1 _ _ (by omega)).trans k3
          have j4 : Below w.heap.size w w5 := k4.trans (hb5.mono (by omega))
          have j5 : w4.heap.size < w5.heap.size := by have := hb5.size; omega
          clear k0 k1 k2 k3 k4
          by_cases hl : lo ≤ k
          · by_cases hh : k ≤ hi
            · have hs : (atZ o d k == s) = true := by rw [beq_iff_eq]; exact hS'.out.2 ⟨hl, hh⟩
              go_wp2_with fail
              go_roundw
              case rel => exact ⟨k + 1, by first | rfl | (simp; omega), rfl, by omega, by omega, j0, j1, j2, j3, j4, j5⟩
              case measure => simp [intOf]; omega
            · have hs : (atZ o d k == s) = false := by rw [beq_eq_false_iff_ne]; exact fun e => hh (hS'.out.1 e).2
              go_wp2_with fail
              go_roundw
              case rel => exact ⟨k + 1, by first | rfl | (simp; omega), rfl, by omega, by omega, j0, j1, j2, j3, j4, j5⟩
              case measure => simp [intOf]; omega
          · have hs : (atZ o d k == s) = false := by rw [beq_eq_false_iff_ne]; exact fun e => hl (hS'.out.1 e).1
            go_wp2_with fail
            go_roundw
            case rel => exact ⟨k + 1, by first | rfl | (simp; omega), rfl, by omega, by omega, j0, j1, j2, j3, j4, j5⟩
            case measure => simp [intOf]; omega
        · have hS' := Lib.hid hin
          have hout : k < 0 ∨ 10000000000000 < k := by omega
          clear hin
          rcases hout with hout | hout
          · have hl : ¬ lo ≤ k := by omega
            go_wp2_with fail
            refine (show_no _ _ _ _ (fun h => hS'.out h.2)).mono ?_
            rintro e w5 ⟨rfl, hb5⟩
            have j0 : w5.cell? ⟨w.heap.size, 0, none⟩ = some (.int .i64 o) := ((bcell hb5).1 _ _ (by omega)).trans k0
            have j1 : w5.cell? ⟨w.heap.size, 1, none⟩ = some (.int .i64 d) := ((bcell hb5).1 _ _ (by omega)).trans k1
            have j2 : w5.cell? ⟨w4.heap.size, 0, none⟩ = some (.int .i64 lo) := ((bcell hb5).1 _ _ (by omega)).trans k2
            have j3 : w5.cell? ⟨w4.heap.size, 1, none⟩ = some (.int .i64 hi) := ((bcell hb5).1 _ _ (by omega)).trans k3
            have j4 : Below w.heap.size w w5 := k4.trans (hb5.mono (by omega))
            have j5 : w4.heap.size < w5.heap.size := by have := hb5.size; omega
            clear k0 k1 k2 k3 k4
            go_wp2_with fail
            go_roundw
            case rel => exact ⟨k + 1, by first | rfl | (simp; omega), rfl, by omega, by omega, j0, j1, j2, j3, j4, j5⟩
            case measure => simp [intOf]; omega
          · have hl : lo ≤ k := by omega
            have hh : ¬ k ≤ hi := by omega
            go_wp2_with fail
            refine (show_no _ _ _ _ (fun h => hS'.out h.2)).mono ?_
            rintro e w5 ⟨rfl, hb5⟩
            have j0 : w5.cell? ⟨w.heap.size, 0, none⟩ = some (.int .i64 o) := ((bcell hb5).1 _ _ (by omega)).trans k0
            have j1 : w5.cell? ⟨w.heap.size, 1, none⟩ = some (.int .i64 d) := ((bcell hb5).1 _ _ (by omega)).trans k1
            have j2 : w5.cell? ⟨w4.heap.size, 0, none⟩ = some (.int .i64 lo) := ((bcell hb5).1 _ _ (by omega)).trans k2
            have j3 : w5.cell? ⟨w4.heap.size, 1, none⟩ = some (.int .i64 hi) := ((bcell hb5).1 _ _ (by omega)).trans k3
            have j4 : Below w.heap.size w w5 := k4.trans (hb5.mono (by omega))
            have j5 : w4.heap.size < w5.heap.size := by have := hb5.size; omega
            clear k0 k1 k2 k3 k4
            go_wp2_with fail
            go_roundw
            case rel => exact ⟨k + 1, by first | rfl | (simp; omega), rfl, by omega, by omega, j0, j1, j2, j3, j4, j5⟩
            case measure => simp [intOf]; omega
      · go_wp2_with fail
        go_ret
        exact ⟨rfl, k4⟩

set_option maxHeartbeats 1000000 in
set_option maxRecDepth 100000 in
theorem Inverse_out (o d t s : Int) (w : World) (h : ¬ (((-1000000000 ≤ o ∧ o ≤ 1000000000) ∧ (-50 ≤ d ∧ d ≤ 50)) ∧ (0 ≤ t ∧ t ≤ 10000000000000))) :
    Calls Try.prog 6 #[.agg #[.int .i64 o, .int .i64 d], .int .i64 t, .int .i64 s] w fun e w' => e = .returned (.bool true) ∧ Below w.heap.size w w' := by
  have H := Lib.hid h
  clear h
  go_enter Try.func6, Try.ntmps6
  go_wp2_with fail
  refine (head_any _).mono ?_
  rintro e w1 ⟨rfl, hb⟩
  obtain ⟨hc, hf⟩ := bcell hb
  have hz : w.heap.size < w1.heap.size := by have := hb.size; simp at this; omega
  have hB1 : Below w.heap.size w w1 := ((Below.refl _ _).alloc (Nat.le_refl _) _).trans (hb.mono (by simp))
  go_wp2_with fail
  refine (show_no _ _ _ _ H.out).mono ?_
  rintro e w2 ⟨rfl, hb2⟩
  obtain ⟨hc2, hf2⟩ := bcell hb2
  have hz2 : w.heap.size < w2.heap.size := by have := hb2.size; omega
  have hB2 : Below w.heap.size w w2 := hB1.trans (hb2.mono (by omega))
  go_wp2_with fail
  refine (when_any _ _ _ _).mono ?_
  rintro e w4 ⟨⟨lo, hi, eg, rfl, hr⟩, hb4⟩
  obtain ⟨hc4, hf4⟩ := bcell hb4
  have hz4 : w.heap.size < w4.heap.size := by have := hb4.size; first | omega | (simp at this; omega)
  have hB4 : Below w.heap.size w w4 := hB2.trans (hb4.mono (by omega))
  have g0 : w4.cell? ⟨w.heap.size, 0, none⟩ = some (.int .i64 o) := (hc4 _ _ hz2).trans ((hc2 _ _ hz).trans ((hc _ _ (by simp)).trans (by simp)))
  have g1 : w4.cell? ⟨w.heap.size, 1, none⟩ = some (.int .i64 d) := (hc4 _ _ hz2).trans ((hc2 _ _ hz).trans ((hc _ _ (by simp)).trans (by simp)))
  rcases hr with ⟨hn, rfl, rfl, rfl⟩ | ⟨hv, hn, rfl, rfl, rfl⟩ | ⟨hv, hok, rfl⟩
  · clear hn
    go_wp2_with fail
    go_ret
    exact ⟨rfl, hB4.alloc (by omega) _⟩
  · clear hn
    go_wp2_with fail
    go_ret
    exact ⟨rfl, hB4.alloc (by omega) _⟩
  · obtain ⟨⟨o1, o2⟩, d1, d2⟩ := hv
    have HS := hok.2.2.2
    obtain ⟨l0, lh, h1, _⟩ := hok
    have hl2 : hi ≤ lo + 1 := by
      by_cases hl2 : hi ≤ lo + 1
      · exact hl2
      · have e1 := (HS lo (by omega) (by omega)).2 ⟨by omega, by omega⟩
        have e2 := (HS (lo + 2) (by omega) (by omega)).2 ⟨by omega, by omega⟩
        have := atZ_two o d lo d1 d2
        omega
    have HS' := Lib.hid HS
    clear HS
    go_wp2_with fail
    obtain ⟨W, hW⟩ : ∃ W, W = w4.alloc (.cells #[.int .i64 lo, .int .i64 hi] 29) := ⟨_, rfl⟩
    have k0 : W.cell? ⟨w.heap.size, 0, none⟩ = some (.int .i64 o) := by rw [hW]; exact (((Below.refl _ w4).alloc (Nat.le_refl _) _).cell (p := ⟨w.heap.size, 0, none⟩) hz4).trans g0
    have k1 : W.cell? ⟨w.heap.size, 1, none⟩ = some (.int .i64 d) := by rw [hW]; exact (((Below.refl _ w4).alloc (Nat.le_refl _) _).cell (p := ⟨w.heap.size, 1, none⟩) hz4).trans g1
    have k2 : W.cell? ⟨w4.heap.size, 0, none⟩ = some (.int .i64 lo) := by rw [hW]; simp
    have k3 : W.cell? ⟨w4.heap.size, 1, none⟩ = some (.int .i64 hi) := by rw [hW]; simp
    have k4 : Below w.heap.size w W := by rw [hW]; exact hB4.alloc (by omega) _
    have k5 : w4.heap.size < W.heap.size := by rw [hW]; simp
    rw [← hW]
    clear hW hc hf hc2 hf2 hc4 hf4 hb hb2 hb4 hB1 hB2 g0 g1 hB4
    go_loopw [7, 14] (fun u i wr => ∃ k : Int, u = .bool true ∧ i = .int .i64 k ∧ lo - 1 ≤ k ∧ k ≤ hi + 2 ∧ wr.cell? ⟨w.heap.size, 0, none⟩ = some (.int .i64 o) ∧ wr.cell? ⟨w.heap.size, 1, none⟩ = some (.int .i64 d) ∧
      wr.cell? ⟨w4.heap.size, 0, none⟩ = some (.int .i64 lo) ∧ wr.cell? ⟨w4.heap.size, 1, none⟩ = some (.int .i64 hi) ∧ Below w.heap.size w wr ∧ w4.heap.size < wr.heap.size)
      (fun _ i _ => (hi + 2 - intOf i).toNat)
    case atStart => exact ⟨lo - 1, rfl, rfl, by omega, by omega, k0, k1, k2, k3, k4, k5⟩
    case round =>
      clear k0 k1 k2 k3 k4 k5
      obtain ⟨k, rfl, rfl, m0, m1, k0, k1, k2, k3, k4, k5⟩ := hrel
      by_cases hx : k ≤ hi + 1
      · by_cases hin : 0 ≤ k ∧ k ≤ 10000000000000
        · obtain ⟨i0, i1⟩ := hin
          have hS := HS'.out k i0 i1
          have hS' := Lib.hid hS
          clear hS
          go_wp2_with fail
          refine (show_yes _ _ _ _ o1 o2 d1 d2 i0 i1).mono ?_
          rintro e w5 ⟨rfl, hb5⟩
          have j0 : w5.cell? ⟨w.heap.size, 0, none⟩ = some (.int .i64 o) := ((bcell hb5).1 _ _ (by omega)).trans k0
          have j1 : w5.cell? ⟨w.heap.size, 1, none⟩ = some (.int .i64 d) := ((bcell hb5).1 _ _ (by omega)).trans k1
          have j2 : w5.cell? ⟨w4.heap.size, 0, none⟩ = some (.int .i64 lo) := ((bcell hb5).1 _ _ (by omega)).trans k2
          have j3 : w5.cell? ⟨w4.heap.size, 1, none⟩ = some (.int .i64 hi) := ((bcell hb5).1 _ _ (by omega)).trans k3
          have j4 : Below w.heap.size w w5 := k4.trans (hb5.mono (by omega))
          have j5 : w4.heap.size < w5.heap.size := by have := hb5.size; omega
          clear k0 k1 k2 k3 k4
          by_cases hl : lo ≤ k
          · by_cases hh : k ≤ hi
            · have hs : (atZ o d k == s) = true := by rw [beq_iff_eq]; exact hS'.out.2 ⟨hl, hh⟩
              go_wp2_with fail
              go_roundw
              case rel => exact ⟨k + 1, by first | rfl | (simp; omega), rfl, by omega, by omega, j0, j1, j2, j3, j4, j5⟩
              case measure => simp [intOf]; omega
            · have hs : (atZ o d k == s) = false := by rw [beq_eq_false_iff_ne]; exact fun e => hh (hS'.out.1 e).2
              go_wp2_with fail
              go_roundw
              case rel => exact ⟨k + 1, by first | rfl | (simp; omega), rfl, by omega, by omega, j0, j1, j2, j3, j4, j5⟩
              case measure => simp [intOf]; omega
          · have hs : (atZ o d k == s) = false := by rw [beq_eq_false_iff_ne]; exact fun e => hl (hS'.out.1 e).1
            go_wp2_with fail
            go_roundw
            case rel => exact ⟨k + 1, by first | rfl | (simp; omega), rfl, by omega, by omega, j0, j1, j2, j3, j4, j5⟩
            case measure => simp [intOf]; omega
        · have hS' := Lib.hid hin
          have hout : k < 0 ∨ 10000000000000 < k := by omega
          clear hin
          rcases hout with hout | hout
          · have hl : ¬ lo ≤ k := by omega
            go_wp2_with fail
            refine (show_no _ _ _ _ (fun h => hS'.out h.2)).mono ?_
            rintro e w5 ⟨rfl, hb5⟩
            have j0 : w5.cell? ⟨w.heap.size, 0, none⟩ = some (.int .i64 o) := ((bcell hb5).1 _ _ (by omega)).trans k0
            have j1 : w5.cell? ⟨w.heap.size, 1, none⟩ = some (.int .i64 d) := ((bcell hb5).1 _ _ (by omega)).trans k1
            have j2 : w5.cell? ⟨w4.heap.size, 0, none⟩ = some (.int .i64 lo) := ((bcell hb5).1 _ _ (by omega)).trans k2
            have j3 : w5.cell? ⟨w4.heap.size, 1, none⟩ = some (.int .i64 hi) := ((bcell hb5).1 _ _ (by omega)).trans k3
            have j4 : Below w.heap.size w w5 := k4.trans (hb5.mono (by omega))
            have j5 : w4.heap.size < w5.heap.size := by have := hb5.size; omega
            clear k0 k1 k2 k3 k4
            go_wp2_with fail
            go_roundw
            case rel => exact ⟨k + 1, by first | rfl | (simp; omega), rfl, by omega, by omega, j0, j1, j2, j3, j4, j5⟩
            case measure => simp [intOf]; omega
          · have hl : lo ≤ k := by omega
            have hh : ¬ k ≤ hi := by omega
            go_wp2_with fail
            refine (show_no _ _ _ _ (fun h => hS'.out h.2)).mono ?_
            rintro e w5 ⟨rfl, hb5⟩
            have j0 : w5.cell? ⟨w.heap.size, 0, none⟩ = some (.int .i64 o) := ((bcell hb5).1 _ _ (by omega)).trans k0
            have j1 : w5.cell? ⟨w.heap.size, 1, none⟩ = some (.int .i64 d) := ((bcell hb5).1 _ _ (by omega)).trans k1
            have j2 : w5.cell? ⟨w4.heap.size, 0, none⟩ = some (.int .i64 lo) := ((bcell hb5).1 _ _ (by omega)).trans k2
            have j3 : w5.cell? ⟨w4.heap.size, 1, none⟩ = some (.int .i64 hi) := ((bcell hb5).1 _ _ (by omega)).trans k3
            have j4 : Below w.heap.size w w5 := k4.trans (hb5.mono (by omega))
            have j5 : w4.heap.size < w5.heap.size := by have := hb5.size; omega
            clear k0 k1 k2 k3 k4
            go_wp2_with fail
            go_roundw
            case rel => exact ⟨k + 1, by first | rfl | (simp; omega), rfl, by omega, by omega, j0, j1, j2, j3, j4, j5⟩
            case measure => simp [intOf]; omega
      · go_wp2_with fail
        go_ret
        exact ⟨rfl, k4⟩

theorem ClockInverse_walk (o d t s : Int) (w : World) (wt : (Lit.int .i64 t).wf = true) (ws : (Lit.int .i64 s).wf = true) :
    Calls Try.prog 6 #[.agg #[.int .i64 o, .int .i64 d], .int .i64 t, .int .i64 s] w fun e w' => e = .returned (.bool true) ∧ Below w.heap.size w w' := by
  clear wt ws
  by_cases h : ((-1000000000 ≤ o ∧ o ≤ 1000000000) ∧ (-50 ≤ d ∧ d ≤ 50)) ∧ (0 ≤ t ∧ t ≤ 10000000000000)
  · exact Inverse_in o d t s w h.1.1.1 h.1.1.2 h.1.2.1 h.1.2.2 h.2.1 h.2.2
  · exact Inverse_out o d t s w h

end Go.Proofs.Ytgaelpbchplmkaa
