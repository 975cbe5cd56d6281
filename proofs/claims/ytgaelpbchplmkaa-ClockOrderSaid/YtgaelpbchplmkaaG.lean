import Derived.Test.YtgaelpbchplmkaaF
namespace Go.Proofs.Ytgaelpbchplmkaa
open Go.RowKit

theorem ClockOrder_walk (o d t u : Int) (w : World) :
    Calls Try.prog 4 #[.agg #[.int .i64 o, .int .i64 d], .int .i64 t, .int .i64 u] w fun e w' => e = .returned (.bool true) ∧ Below w.heap.size w w' := by
  go_enter Try.func4, Try.ntmps4
  go_wp2_with fail
  refine (head_any _).mono ?_
  rintro e w1 ⟨rfl, hb⟩
  obtain ⟨hc, hf⟩ := bcell hb
  have hz : w.heap.size < w1.heap.size := by have := hb.size; simp at this; omega
  have hB1 : Below w.heap.size w w1 := ((Below.refl _ _).alloc (Nat.le_refl _) _).trans (hb.mono (by simp))
  go_wp2_with fail
  refine (two_any _ _ _ _ _).mono ?_
  rintro e w2 ⟨⟨a, b, ok, rfl, h2⟩, hb2⟩
  obtain ⟨hc2, hf2⟩ := bcell hb2
  have hB2 : Below w.heap.size w w2 := hB1.trans (hb2.mono (by omega))
  rcases h2 with ⟨⟨⟨o1, o2⟩, d1, d2⟩, ⟨t1, t2⟩, ⟨u1, u2⟩, htu, rfl, rfl, rfl⟩ | ⟨hn, rfl⟩
  · have hab := atZ_mono o d t u d1 d2 htu
    have hs := atZ_succ o d t d1 d2
    have hbd := atZ_bd o d t o1 o2 d1 d2 t1 t2
    by_cases hm : t = 10000000000000
    · subst hm
      go_wp2_with fail
      go_ret
      exact ⟨by simp, hB2⟩
    · have hm' : t < 10000000000000 := by omega
      clear hm
      go_wp2_with fail
      refine (show_yes _ _ _ _ o1 o2 d1 d2 (by omega) (by omega)).mono ?_
      rintro e w3 ⟨rfl, hb3⟩
      have hB3 : Below w.heap.size w w3 := hB2.trans (hb3.mono (by have := hb2.size; omega))
      obtain ⟨hs1, hs2⟩ := hs
      go_wp2_with fail
      go_ret
      exact ⟨by simp, hB3⟩
  · clear hn
    go_wp2_with fail
    go_ret
    exact ⟨rfl, hB2⟩

end Go.Proofs.Ytgaelpbchplmkaa
