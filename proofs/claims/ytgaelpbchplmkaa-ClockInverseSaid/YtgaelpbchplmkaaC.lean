import Derived.Test.YtgaelpbchplmkaaB
namespace Go.Proofs.Ytgaelpbchplmkaa
open Go.RowKit

/-- All true times before 'r' show less than 'l'. -/
def LowOk (o d l r : Int) : Prop := ∀ n, 0 ≤ n → n < r → atZ o d n < l
/-- All true times from 'r' on show at least 'l'. -/
def HighOk (o d l r : Int) : Prop := ∀ n, r ≤ n → n ≤ 10000000000000 → l ≤ atZ o d n

theorem atZ_succ (o d n : Int) (d1 : -50 ≤ d) (d2 : d ≤ 50) : atZ o d n ≤ atZ o d (n + 1) ∧ atZ o d (n + 1) ≤ atZ o d n + 2 := by
  have e : d * (n + 1) = d * n + d := by rw [Int.mul_add, Int.mul_one]
  unfold atZ
  rw [e]
  omega

theorem atZ_mono_nat (o d n : Int) (d1 : -50 ≤ d) (d2 : d ≤ 50) (k : Nat) : atZ o d n ≤ atZ o d (n + k) := by
  induction k with
  | zero => simp
  | succ k ih =>
    have h := (atZ_succ o d (n + k) d1 d2).1
    have e : n + ((k + 1 : Nat) : Int) = n + k + 1 := by omega
    rw [e]
    omega

theorem atZ_mono (o d n m : Int) (d1 : -50 ≤ d) (d2 : d ≤ 50) (h : n ≤ m) : atZ o d n ≤ atZ o d m := by
  obtain ⟨k, hk⟩ : ∃ k : Nat, m = n + k := ⟨(m - n).toNat, by omega⟩
  rw [hk]
  exact atZ_mono_nat o d n d1 d2 k

theorem high_mid {o d l m : Int} (d1 : -50 ≤ d) (d2 : d ≤ 50) (h : l ≤ atZ o d m) : HighOk o d l m := by
  intro n h1 _
  have := atZ_mono o d m n d1 d2 h1
  omega

theorem low_mid {o d l m : Int} (d1 : -50 ≤ d) (d2 : d ≤ 50) (h : atZ o d m < l) : LowOk o d l (m + 1) := by
  intro n _ h1
  have := atZ_mono o d n m d1 d2 (by omega)
  omega

theorem first_any (o d l : Int) (w : World) (o1 : -1000000000 ≤ o) (o2 : o ≤ 1000000000) (d1 : -50 ≤ d) (d2 : d ≤ 50) :
    Calls Try.prog 22 #[.int .i64 0, .int .i64 10000000000001, .func (.func 20) #[.agg #[.int .i64 o, .int .i64 d]] #[], .int .i64 l] w
      fun e w' => (∃ r : Int, e = .returned (.int .i64 r) ∧ 0 ≤ r ∧ r ≤ 10000000000001 ∧ LowOk o d l r ∧ HighOk o d l r) ∧ Below w.heap.size w w' := by
  go_enter Try.func22, Try.ntmps22
  go_wp2_with fail
  go_loopw [0, 1] (fun a b wr => ∃ lo hi : Int, a = .int .i64 lo ∧ b = .int .i64 hi ∧ 0 ≤ lo ∧ lo ≤ hi ∧ hi ≤ 10000000000001 ∧ LowOk o d l lo ∧ HighOk o d l hi ∧ Below w.heap.size w wr)
    (fun a b _ => (intOf b - intOf a).toNat)
  case atStart => exact ⟨0, 10000000000001, rfl, rfl, by omega, by omega, by omega, fun n h1 h2 => by omega, fun n h1 h2 => by omega, Below.refl _ _⟩
  case round =>
    obtain ⟨lo, hi, rfl, rfl, h0, h1, h2, hl, hh, hb⟩ := hrel
    by_cases hlt : lo < hi
    · have em : lo + (hi - lo) / 2 < hi := by omega
      go_wp2_with fail
      refine (at_any _ _ _ _ o1 o2 d1 d2 (by omega) (by omega)).mono ?_
      rintro e w2 ⟨rfl, hb2⟩
      by_cases hm : l ≤ atZ o d (lo + (hi - lo) / 2)
      · go_wp2_with fail
        go_roundw
        case rel => exact ⟨lo, lo + (hi - lo) / 2, rfl, rfl, by omega, by omega, by omega, hl, high_mid d1 d2 hm, hb.trans (hb2.mono hb.size)⟩
        case measure => simp [intOf]; omega
      · go_wp2_with fail
        go_roundw
        case rel => exact ⟨lo + (hi - lo) / 2 + 1, hi, rfl, rfl, by omega, by omega, by omega, low_mid d1 d2 (by omega), hh, hb.trans (hb2.mono hb.size)⟩
        case measure => simp [intOf]; omega
    · obtain rfl : lo = hi := by omega
      go_wp2_with fail
      go_ret
      exact ⟨⟨lo, rfl, h0, h2, hl, hh⟩, hb⟩

end Go.Proofs.Ytgaelpbchplmkaa
