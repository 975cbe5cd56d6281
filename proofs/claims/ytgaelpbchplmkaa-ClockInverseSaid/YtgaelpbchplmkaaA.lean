import Derived.Test.YtgaelpbchplmkaaProg
import Derived.WalkKit
import Derived.RowKit3
import Derived.WalkSpells
import Derived.WalkLawsBesides
import Derived.Lib.Hide
import Derived.Deep.QuietTactic
import Derived.BigQuiet
import Derived.Outline
namespace Go.Proofs.Ytgaelpbchplmkaa
open Go.RowKit

def atZ (o d t : Int) : Int := t + o + d * t / 1000000
def inB (n h : Int) : Bool := decide (-h ≤ n ∧ n ≤ h)
def validB (o d : Int) : Bool := decide ((-1000000000 ≤ o ∧ o ≤ 1000000000) ∧ (-50 ≤ d ∧ d ≤ 50))

theorem in_yes (n h : Int) (w : World) (h0 : 0 ≤ h) (h1 : h ≤ 1000000000) (h2 : -h ≤ n) (h3 : n ≤ h) :
    Calls Try.prog 24 #[.int .i64 n, .int .i64 h] w fun e w' => e = .returned (.bool true) ∧ w = w' := by
  go_enter Try.func24, Try.ntmps24
  go_wp2
  go_ret
  exact ⟨by simp, rfl⟩

theorem in_no (n h : Int) (w : World) (h0 : 0 ≤ h) (h1 : h ≤ 1000000000) (h2 : ¬ (-h ≤ n ∧ n ≤ h)) :
    Calls Try.prog 24 #[.int .i64 n, .int .i64 h] w fun e w' => e = .returned (.bool false) ∧ w = w' := by
  by_cases h3 : -h ≤ n
  · have h4 : ¬ n ≤ h := fun h4 => h2 ⟨h3, h4⟩
    clear h2
    go_enter Try.func24, Try.ntmps24
    go_wp2
    go_ret
    exact ⟨by simp, rfl⟩
  · clear h2
    go_enter Try.func24, Try.ntmps24
    go_wp2
    go_ret
    exact ⟨rfl, rfl⟩

theorem valid_yes (o d : Int) (w : World) (h1 : -1000000000 ≤ o) (h2 : o ≤ 1000000000) (h3 : -50 ≤ d) (h4 : d ≤ 50) :
    Calls Try.prog 15 #[.agg #[.int .i64 o, .int .i64 d]] w fun e w' => e = .returned (.bool true) ∧ Below w.heap.size w w' := by
  go_enter Try.func15, Try.ntmps15
  go_wp2_with (go_at_call 24; refine (in_yes _ _ _ (by omega) (by omega) (by omega) (by omega)).mono ?_; rintro e w' ⟨rfl, rfl⟩)
  go_ret
  exact ⟨rfl, (Below.refl _ _).alloc (Nat.le_refl _) _⟩

theorem valid_no (o d : Int) (w : World) (h : ¬ ((-1000000000 ≤ o ∧ o ≤ 1000000000) ∧ (-50 ≤ d ∧ d ≤ 50))) :
    Calls Try.prog 15 #[.agg #[.int .i64 o, .int .i64 d]] w fun e w' => e = .returned (.bool false) ∧ Below w.heap.size w w' := by
  by_cases h1 : -1000000000 ≤ o ∧ o ≤ 1000000000
  · obtain ⟨h1, h2⟩ := h1
    have h3 : ¬ (-50 ≤ d ∧ d ≤ 50) := fun h3 => h ⟨⟨h1, h2⟩, h3⟩
    clear h
    have H := Lib.hid h3
    clear h3
    go_enter Try.func15, Try.ntmps15
    go_wp2_with (first | (go_at_call 24; refine (in_yes _ _ _ (by omega) (by omega) (by omega) (by omega)).mono ?_; rintro e w' ⟨rfl, rfl⟩) | (go_at_call 24; refine (in_no _ _ _ (by omega) (by omega) H.out).mono ?_; rintro e w' ⟨rfl, rfl⟩))
    go_ret
    exact ⟨rfl, (Below.refl _ _).alloc (Nat.le_refl _) _⟩
  · clear h
    have H := Lib.hid h1
    clear h1
    go_enter Try.func15, Try.ntmps15
    go_wp2_with (go_at_call 24; refine (in_no _ _ _ (by omega) (by omega) H.out).mono ?_; rintro e w' ⟨rfl, rfl⟩)
    go_ret
    exact ⟨rfl, (Below.refl _ _).alloc (Nat.le_refl _) _⟩

theorem valid_any (o d : Int) (w : World) :
    Calls Try.prog 15 #[.agg #[.int .i64 o, .int .i64 d]] w fun e w' => e = .returned (.bool (validB o d)) ∧ Below w.heap.size w w' := by
  by_cases h : ((-1000000000 ≤ o ∧ o ≤ 1000000000) ∧ (-50 ≤ d ∧ d ≤ 50))
  · have e : validB o d = true := decide_eq_true h
    rw [e]
    exact valid_yes o d w h.1.1 h.1.2 h.2.1 h.2.2
  · have e : validB o d = false := decide_eq_false h
    rw [e]
    exact valid_no o d w h

end Go.Proofs.Ytgaelpbchplmkaa
