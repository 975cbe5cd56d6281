import Derived.Test.YtgaelpbchplmkaaE
namespace Go.Proofs.Ytgaelpbchplmkaa
open Go.RowKit

/-- The clock is valid. -/
def Vld (o d : Int) : Prop := (-1000000000 ≤ o ∧ o ≤ 1000000000) ∧ (-50 ≤ d ∧ d ≤ 50)
/-- 't' is a true time. -/
def Tim (t : Int) : Prop := 0 ≤ t ∧ t ≤ 10000000000000
/-- What 'Show' answers. -/
def ShowIs (o d t v er : Int) : Prop := (Vld o d ∧ Tim t ∧ v = atZ o d t ∧ er = 0) ∨ (¬ (Vld o d ∧ Tim t) ∧ v = 0 ∧ er = 1)
def ShowRes (o d t : Int) (e : Ending) : Prop := ∃ v er : Int, e = .returned (.tuple #[.int .i64 v, .int .i64 er]) ∧ ShowIs o d t v er

theorem show_any (o d t : Int) (w : World) :
    Calls Try.prog 11 #[.agg #[.int .i64 o, .int .i64 d], .int .i64 t] w fun e w' => ShowRes o d t e ∧ Below w.heap.size w w' := by
  by_cases h : Vld o d ∧ Tim t
  · obtain ⟨⟨⟨o1, o2⟩, d1, d2⟩, t1, t2⟩ := h
    exact (show_yes o d t w o1 o2 d1 d2 t1 t2).mono fun e w' ⟨he, hb⟩ => ⟨⟨_, _, he, .inl ⟨⟨⟨o1, o2⟩, d1, d2⟩, ⟨t1, t2⟩, rfl, rfl⟩⟩, hb⟩
  · exact (show_no o d t w h).mono fun e w' ⟨he, hb⟩ => ⟨⟨_, _, he, .inr ⟨h, rfl, rfl⟩⟩, hb⟩

/-- What 'two' answers. -/
def TwoIs (o d t u a b : Int) (ok : Bool) : Prop := (Vld o d ∧ Tim t ∧ Tim u ∧ t ≤ u ∧ a = atZ o d t ∧ b = atZ o d u ∧ ok = true) ∨ (¬ (Vld o d ∧ Tim t ∧ Tim u ∧ t ≤ u) ∧ ok = false)
def TwoRes (o d t u : Int) (e : Ending) : Prop := ∃ (a b : Int) (ok : Bool), e = .returned (.tuple #[.int .i64 a, .int .i64 b, .bool ok]) ∧ TwoIs o d t u a b ok

theorem two_any (o d t u : Int) (w : World) :
    Calls Try.prog 17 #[.agg #[.int .i64 o, .int .i64 d], .int .i64 t, .int .i64 u] w fun e w' => TwoRes o d t u e ∧ Below w.heap.size w w' := by
  go_enter Try.func17, Try.ntmps17
  go_wp2_with fail
  refine (show_any _ _ _ _).mono ?_
  rintro e w1 ⟨⟨a, er, rfl, h1⟩, hb⟩
  obtain ⟨hc, hf⟩ := bcell hb
  have hz : w.heap.size < w1.heap.size := by have := hb.size; simp at this; omega
  have hB1 : Below w.heap.size w w1 := ((Below.refl _ _).alloc (Nat.le_refl _) _).trans (hb.mono (by simp))
  go_wp2_with fail
  refine (show_any _ _ _ _).mono ?_
  rintro e w2 ⟨⟨b, er2, rfl, h2⟩, hb2⟩
  have hB2 : Below w.heap.size w w2 := hB1.trans (hb2.mono (by omega))
  rcases h1 with ⟨hv, ht, rfl, rfl⟩ | ⟨hn, rfl, rfl⟩
  · rcases h2 with ⟨_, hu, rfl, rfl⟩ | ⟨hn, rfl, rfl⟩
    · by_cases htu : t ≤ u
      · go_wp2_with fail
        go_ret3
        exact ⟨⟨_, _, _, rfl, .inl ⟨hv, ht, hu, htu, rfl, rfl, by simp⟩⟩, hB2⟩
      · go_wp2_with fail
        go_ret3
        exact ⟨⟨_, _, _, rfl, .inr ⟨fun h => by omega, by simp; omega⟩⟩, hB2⟩
    · have H := Lib.hid hn
      clear hn
      go_wp2_with fail
      go_ret3
      exact ⟨⟨_, _, _, rfl, .inr ⟨fun h => H.out ⟨hv, h.2.2.1⟩, rfl⟩⟩, hB2⟩
  · have H := Lib.hid hn
    clear hn
    go_wp2_with fail
    go_ret3
    exact ⟨⟨_, _, _, rfl, .inr ⟨fun h => H.out ⟨h.1, h.2.1⟩, rfl⟩⟩, hB2⟩

theorem parts_any (d m : Int) (w : World) (h0 : 0 ≤ d * m) (h1 : d * m ≤ 1000000000000000) :
    Calls Try.prog 18 #[.int .i64 d, .int .i64 m] w fun e w' => e = .returned (.int .i64 ((d * m + 999999) / 1000000)) ∧ w = w' := by
  go_enter Try.func18, Try.ntmps18
  go_wp2_with fail
  go_ret
  exact ⟨rfl, rfl⟩

end Go.Proofs.Ytgaelpbchplmkaa
