import Derived.Test.YtgaelpbchplmkaaF
import Derived.WalkSmall
import Derived.Deep.RegionHeld3
namespace Go.Proofs.Ytgaelpbchplmkaa
open Go.RowKit

theorem rdown_any (n : Int) (w : World) (n1 : -500000000000000 ≤ n) (n2 : n ≤ 500000000000000) :
    Calls Try.prog 25 #[.int .i64 n] w fun e w' => e = .returned (.int .i64 (n / 1000000)) ∧ w' = w := by
  by_cases h : 0 ≤ n
  · go_enter Try.func25, Try.ntmps25
    go_wp2_with fail
    go_ret
    exact ⟨rfl, rfl⟩
  · have h1 : 0 ≤ -n + 999999 := by omega
    go_enter Try.func25, Try.ntmps25
    go_wp2_with fail
    go_ret
    exact ⟨ret_int (show -((-n + 999999) / 1000000) = n / 1000000 by omega), rfl⟩

theorem rat_any (o d t : Int) (w : World) (o1 : -1000000000 ≤ o) (o2 : o ≤ 1000000000) (d1 : -50 ≤ d) (d2 : d ≤ 50) (t1 : 0 ≤ t) (t2 : t ≤ 10000000000000) :
    Calls Try.prog 21 #[.agg #[.int .i64 o, .int .i64 d], .int .i64 t] w fun e w' => e = .returned (.int .i64 (atZ o d t)) ∧ Below w.heap.size w w' := by
  obtain ⟨m1, m2⟩ := mul_bd d t d1 d2 t1 t2
  have hw : IntKind.i64.wrap (d * t) = d * t := IntWalk.i64_in _ (by omega)
  have hw2 : IntKind.i64.wrap (t + o) = t + o := IntWalk.i64_in _ (by omega)
  have hw3 : IntKind.i64.wrap (t + o + d * t / 1000000) = t + o + d * t / 1000000 := IntWalk.i64_in _ (by omega)
  go_enter Try.func21, Try.ntmps21
  go_wp2_with fail
  go_quiet ((go_at_call 25; exact Calls.quiet_of_same (rdown_any _ _ (by omega) (by omega))))
  go_wp2_with fail
  go_ret
  exact ⟨rfl, below_drewN ((Below.refl _ _).alloc (Nat.le_refl _) _) _⟩

theorem rvalid_yes (o d : Int) (w : World) (h1 : -1000000000 ≤ o) (h2 : o ≤ 1000000000) (h3 : -50 ≤ d) (h4 : d ≤ 50) :
    Calls Try.prog 16 #[.agg #[.int .i64 o, .int .i64 d]] w fun e w' => e = .returned (.bool true) ∧ Below w.heap.size w w' := by
  go_enter Try.func16, Try.ntmps16
  go_wp2_with fail
  go_ret
  exact ⟨by simp, (Below.refl _ _).alloc (Nat.le_refl _) _⟩

theorem rvalid_no (o d : Int) (w : World) (h : ¬ ((-1000000000 ≤ o ∧ o ≤ 1000000000) ∧ (-50 ≤ d ∧ d ≤ 50))) :
    Calls Try.prog 16 #[.agg #[.int .i64 o, .int .i64 d]] w fun e w' => e = .returned (.bool false) ∧ Below w.heap.size w w' := by
  by_cases h1 : -1000000000 ≤ o
  · by_cases h2 : o ≤ 1000000000
    · by_cases h3 : -50 ≤ d
      · have h4 : ¬ d ≤ 50 := fun h4 => h ⟨⟨h1, h2⟩, h3, h4⟩
        clear h
        go_enter Try.func16, Try.ntmps16
        go_wp2_with fail
        go_ret
        exact ⟨by simp, (Below.refl _ _).alloc (Nat.le_refl _) _⟩
      · clear h
        go_enter Try.func16, Try.ntmps16
        go_wp2_with fail
        go_ret
        exact ⟨by simp, (Below.refl _ _).alloc (Nat.le_refl _) _⟩
    · clear h
      go_enter Try.func16, Try.ntmps16
      go_wp2_with fail
      go_ret
      exact ⟨by simp, (Below.refl _ _).alloc (Nat.le_refl _) _⟩
  · clear h
    go_enter Try.func16, Try.ntmps16
    go_wp2_with fail
    go_ret
    exact ⟨by simp, (Below.refl _ _).alloc (Nat.le_refl _) _⟩

theorem rshow_any (o d t : Int) (w : World) :
    Calls Try.prog 12 #[.agg #[.int .i64 o, .int .i64 d], .int .i64 t] w fun e w' => ShowRes o d t e ∧ Below w.heap.size w w' := by
  by_cases h1 : Vld o d
  · obtain ⟨⟨o1, o2⟩, d1, d2⟩ := h1
    by_cases ht : Tim t
    · obtain ⟨t1, t2⟩ := ht
      go_enter Try.func12, Try.ntmps12
      go_wp2_with fail
      refine (rvalid_yes _ _ _ o1 o2 d1 d2).mono ?_
      rintro e w1 ⟨rfl, hb⟩
      obtain ⟨hc, hf⟩ := bcell hb
      have hB1 : Below w.heap.size w w1 := ((Below.refl _ _).alloc (Nat.le_refl _) _).trans (hb.mono (by simp))
      go_wp2_with fail
      refine (rat_any _ _ _ _ o1 o2 d1 d2 t1 t2).mono ?_
      rintro e w2 ⟨rfl, hb2⟩
      go_wp2_with fail
      go_ret2
      exact ⟨⟨_, _, rfl, .inl ⟨⟨⟨o1, o2⟩, d1, d2⟩, ⟨t1, t2⟩, rfl, rfl⟩⟩, hB1.trans (hb2.mono (by have := hb.size; simp at this; omega))⟩
    · have h2 : t < 0 ∨ 10000000000000 < t := by unfold Tim at ht; omega
      have H := Lib.hid ht
      clear ht
      rcases h2 with h2 | h2
      all_goals
        go_enter Try.func12, Try.ntmps12
        go_wp2_with fail
        refine (rvalid_yes _ _ _ o1 o2 d1 d2).mono ?_
        rintro e w1 ⟨rfl, hb⟩
        have hB1 : Below w.heap.size w w1 := ((Below.refl _ _).alloc (Nat.le_refl _) _).trans (hb.mono (by simp))
        go_wp2_with fail
        go_ret2
        exact ⟨⟨_, _, rfl, .inr ⟨fun h => H.out h.2, rfl, rfl⟩⟩, hB1⟩
  · have H := Lib.hid h1
    clear h1
    go_enter Try.func12, Try.ntmps12
    go_wp2_with fail
    refine (rvalid_no _ _ _ H.out).mono ?_
    rintro e w1 ⟨rfl, hb⟩
    have hB1 : Below w.heap.size w w1 := ((Below.refl _ _).alloc (Nat.le_refl _) _).trans (hb.mono (by simp))
    go_wp2_with fail
    go_ret2
    exact ⟨⟨_, _, rfl, .inr ⟨fun h => H.out h.1, rfl, rfl⟩⟩, hB1⟩

/-- 'n' is not a number of earlier times at which less is shown: out of reach, or the last of them shows 's' or more. -/
def NotYet (o d s n : Int) : Prop := 10000000000001 < n ∨ s ≤ atZ o d (n - 1)

theorem pow_half (j : Nat) : ((2 : Int) ^ (j + 1)) / 2 = 2 ^ j := by
  rw [Int.pow_succ]
  omega

theorem pow_pos' (j : Nat) : (1 : Int) ≤ 2 ^ j := by
  have : (0 : Int) < 2 ^ j := Int.pow_pos (by decide)
  omega

theorem pow_le44 (j : Nat) (h : j ≤ 45) : (2 : Int) ^ j ≤ 35184372088832 := by
  have h1 : (2 : Nat) ^ j ≤ 2 ^ 45 := Nat.pow_le_pow_right (by decide) h
  have h2 : ((2 ^ j : Nat) : Int) = (2 : Int) ^ j := by simp
  have h3 : (2 : Nat) ^ 45 = 35184372088832 := by decide
  omega

theorem before_any (o d s : Int) (w : World) (o1 : -1000000000 ≤ o) (o2 : o ≤ 1000000000) (d1 : -50 ≤ d) (d2 : d ≤ 50) :
    Calls Try.prog 23 #[.agg #[.int .i64 o, .int .i64 d], .int .i64 s] w
      fun e w' => (∃ r : Int, e = .returned (.int .i64 r) ∧ 0 ≤ r ∧ r ≤ 10000000000001 ∧ LowOk o d s r ∧ HighOk o d s r) ∧ Below w.heap.size w w' := by
  go_enter Try.func23, Try.ntmps23
  go_wp2_with fail
  have hc0 : (w.alloc (.cells #[.int .i64 o, .int .i64 d] 23)).cell? ⟨w.heap.size, 0, none⟩ = some (.int .i64 o) := by simp
  have hc1 : (w.alloc (.cells #[.int .i64 o, .int .i64 d] 23)).cell? ⟨w.heap.size, 1, none⟩ = some (.int .i64 d) := by simp
  go_loopw [5, 6] (fun a b wr => ∃ (n q p : Int) (k : Nat), a = .int .i64 n ∧ b = .int .i64 q ∧ p = 2 ^ k ∧ q = p / 2 ∧ k ≤ 45 ∧ 0 ≤ n ∧ n ≤ 10000000000001 ∧ LowOk o d s n ∧ NotYet o d s (n + p) ∧ Below w.heap.size w wr ∧ w.heap.size < wr.heap.size ∧ wr.cell? ⟨w.heap.size, 0, none⟩ = some (.int .i64 o) ∧ wr.cell? ⟨w.heap.size, 1, none⟩ = some (.int .i64 d))
    (fun _ b _ => (intOf b).toNat)
  case atStart => exact ⟨0, 17592186044416, 35184372088832, 45, rfl, rfl, rfl, rfl, by omega, by omega, by omega, fun n h1 h2 => by omega, .inl (by omega), (Below.refl _ _).alloc (Nat.le_refl _) _, by simp, hc0, hc1⟩
  case round =>
    obtain ⟨n, q, p, k, rfl, rfl, hp, hq, hk, h0, h1, hl, hn, hb, hz, hr0, hr1⟩ := hrel
    clear hc0 hc1
    cases k with
    | zero =>
      obtain rfl : p = 1 := hp
      obtain rfl : q = 0 := hq
      have HN := Lib.hid hn
      clear hn hk
      go_wp2_with fail
      go_ret
      refine ⟨⟨n, rfl, h0, h1, hl, ?_⟩, hb⟩
      rcases HN.out with hn | hn
      · intro m hm hm2
        omega
      · rw [show n + 1 - 1 = n from by omega] at hn
        exact high_mid d1 d2 hn
    | succ j =>
      have q1 : q = 2 ^ j := by rw [hq, hp]; exact pow_half j
      have q2 : p = q + q := by rw [hp, q1, Int.pow_succ]; omega
      have q3 : 1 ≤ q := by rw [q1]; exact pow_pos' j
      have q4 : q ≤ 17592186044416 := by have := pow_le44 (j + 1) (by omega); omega
      have HP := Lib.hid q1
      have HN : RowKit.Hid (NotYet o d s (n + (q + q))) := by rw [q2] at hn; exact hn
      clear hp hq hn q1 q2
      have q5 : 0 < q := by omega
      by_cases ht : n + q ≤ 10000000000001
      · go_wp2_with fail
        refine (rat_any _ _ _ _ o1 o2 d1 d2 (by omega) (by omega)).mono ?_
        rintro e w2 ⟨rfl, hb2⟩
        obtain ⟨hc2, hf2⟩ := bcell hb2
        have hr0' : w2.cell? ⟨w.heap.size, 0, none⟩ = some (.int .i64 o) := (hc2 _ _ hz).trans hr0
        have hr1' : w2.cell? ⟨w.heap.size, 1, none⟩ = some (.int .i64 d) := (hc2 _ _ hz).trans hr1
        have hz' : w.heap.size < w2.heap.size := by have := hb2.size; omega
        have hb' : Below w.heap.size w w2 := hb.trans (hb2.mono (by omega))
        clear hr0 hr1 hc2 hf2
        by_cases hs : atZ o d (n + q - 1) < s
        · go_wp2_with fail
          go_roundw
          case rel => exact ⟨n + q, q / 2, q, j, rfl, rfl, HP.out, rfl, by omega, by omega, by omega, by have := low_mid (m := n + q - 1) d1 d2 hs; rw [show n + q - 1 + 1 = n + q from by omega] at this; exact this, by have := HN.out; rw [← Int.add_assoc] at this; exact this, hb', hz', hr0', hr1'⟩
          case measure => simp [intOf]; omega
        · have hs' : s ≤ atZ o d (n + q - 1) := by omega
          clear hs
          go_wp2_with fail
          go_roundw
          case rel => exact ⟨n, q / 2, q, j, rfl, rfl, HP.out, rfl, by omega, by omega, by omega, hl, .inr hs', hb', hz', hr0', hr1'⟩
          case measure => simp [intOf]; omega
      · have ht' : 10000000000001 < n + q := by omega
        clear ht
        go_wp2_with fail
        go_roundw
        case rel => exact ⟨n, q / 2, q, j, rfl, rfl, HP.out, rfl, by omega, by omega, by omega, hl, .inl ht', hb, hz, hr0, hr1⟩
        case measure => simp [intOf]; omega

end Go.Proofs.Ytgaelpbchplmkaa
