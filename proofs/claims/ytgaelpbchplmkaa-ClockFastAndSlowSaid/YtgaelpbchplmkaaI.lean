import Derived.Test.YtgaelpbchplmkaaF
import Derived.OpenShut
namespace Go.Proofs.Ytgaelpbchplmkaa
open Go.RowKit

theorem atZ_fast (o d n : Int) (d1 : 0 ≤ d) : atZ o d n + 1 ≤ atZ o d (n + 1) := by
  have e : d * (n + 1) = d * n + d := by rw [Int.mul_add, Int.mul_one]
  unfold atZ
  rw [e]
  omega

theorem atZ_slow (o d n : Int) (d1 : d ≤ 0) : atZ o d (n + 1) ≤ atZ o d n + 1 := by
  have e : d * (n + 1) = d * n + d := by rw [Int.mul_add, Int.mul_one]
  unfold atZ
  rw [e]
  omega

theorem when_fast {o d s lo hi : Int} (d0 : 0 ≤ d) (d1 : -50 ≤ d) (d2 : d ≤ 50) (h : WhenOk o d s lo hi) : lo = hi := by
  obtain ⟨l0, lh, h1, h⟩ := h
  by_cases e : lo = hi
  · exact e
  · have e1 := (h lo (by omega) (by omega)).2 ⟨by omega, by omega⟩
    have e2 := (h (lo + 1) (by omega) (by omega)).2 ⟨by omega, by omega⟩
    have := atZ_fast o d lo d0
    omega

theorem between_slow (o d s t : Int) (d0 : d ≤ 0) (h1 : atZ o d t ≤ s) (k : Nat) (h2 : s ≤ atZ o d (t + k)) : ∃ n, t ≤ n ∧ n ≤ t + k ∧ atZ o d n = s := by
  induction k with
  | zero => exact ⟨t, by omega, by omega, by simp at h2; omega⟩
  | succ k ih =>
    by_cases h : s ≤ atZ o d (t + k)
    · obtain ⟨n, a, b, c⟩ := ih h
      exact ⟨n, a, by omega, c⟩
    · have e : t + ((k + 1 : Nat) : Int) = t + k + 1 := by omega
      have := atZ_slow o d (t + k) d0
      rw [e] at h2
      exact ⟨t + k + 1, by omega, by omega, by omega⟩

theorem when_slow {o d s t u : Int} (d0 : d ≤ 0) (t1 : 0 ≤ t) (u2 : u ≤ 10000000000000) (h : t ≤ u) (h1 : atZ o d t ≤ s) (h2 : s ≤ atZ o d u) (hn : WhenNone o d s) : False := by
  obtain ⟨k, hk⟩ : ∃ k : Nat, u = t + k := ⟨(u - t).toNat, by omega⟩
  rw [hk] at h2
  obtain ⟨n, a, b, c⟩ := between_slow o d s t d0 h1 k h2
  exact hn n (by omega) (by omega) c

theorem mod_bd (p a b : Int) (h0 : 0 ≤ p) (h : a ≤ b) : 0 ≤ p % (b - a + 1) ∧ p % (b - a + 1) ≤ b - a := by
  have h1 := Int.emod_nonneg p (b := b - a + 1) (by omega)
  have h2 := Int.emod_lt_of_pos p (b := b - a + 1) (by omega)
  omega

theorem wf_bd {n : Int} (h : (Lit.int .i64 n).wf = true) : -9223372036854775808 ≤ n ∧ n ≤ 9223372036854775807 := by
  exact bounds_i64 h

theorem ClockFastAndSlow_walk (o d t u p : Int) (w : World) (wt : (Lit.int .i64 t).wf = true) (wu : (Lit.int .i64 u).wf = true) (wp : (Lit.int .i64 p).wf = true) :
    Calls Try.prog 7 #[.agg #[.int .i64 o, .int .i64 d], .int .i64 t, .int .i64 u, .int .i64 p] w fun e w' => e = .returned (.bool true) ∧ Below w.heap.size w w' := by
  obtain ⟨p1, p2⟩ := wf_bd wp
  clear wt wu wp
  go_enter Try.func7, Try.ntmps7
  go_wp2_with fail
  refine (head_any _).mono ?_
  rintro e w1 ⟨rfl, hb⟩
  obtain ⟨hc, hf⟩ := bcell hb
  have hz : w.heap.size < w1.heap.size := by have := hb.size; simp at this; omega
  have hB1 : Below w.heap.size w w1 := ((Below.refl _ _).alloc (Nat.le_refl _) _).trans (hb.mono (by simp))
  go_wp2_with fail
  refine (two_any _ _ _ _ _).mono ?_
  rintro e w2 ⟨⟨a, b, ok, rfl, h2⟩, hb2⟩
  obtain ⟨hc2, hf2⟩ := bcell hb2
  have hz2 : w.heap.size < w2.heap.size := by have := hb2.size; omega
  have hB2 : Below w.heap.size w w2 := hB1.trans (hb2.mono (by omega))
  rcases h2 with ⟨⟨⟨o1, o2⟩, d1, d2⟩, ⟨t1, t2⟩, ⟨u1, u2⟩, htu, rfl, rfl, rfl⟩ | ⟨hn, rfl⟩
  · by_cases hp : p < 0
    · go_wp2_with fail
      go_ret
      exact ⟨rfl, hB2⟩
    · have hp0 : 0 ≤ p := by omega
      have hab := atZ_mono o d t u d1 d2 htu
      obtain ⟨b1, b2⟩ := atZ_bd o d t o1 o2 d1 d2 t1 t2
      obtain ⟨b3, b4⟩ := atZ_bd o d u o1 o2 d1 d2 u1 u2
      obtain ⟨m1, m2⟩ := mod_bd p _ _ hp0 hab
      clear hp
      go_wp2_with fail
      refine (when_any _ _ _ _).mono ?_
      rintro e w3 ⟨⟨lo, hi, er, rfl, hr⟩, hb3⟩
      obtain ⟨hc3, hf3⟩ := bcell hb3
      have hz3 : w.heap.size < w3.heap.size := by have := hb3.size; omega
      have hB3 : Below w.heap.size w w3 := hB2.trans (hb3.mono (by omega))
      rcases hr with h | ⟨_, hno, rfl, rfl, rfl⟩ | ⟨_, hok, rfl⟩
      · exact absurd ⟨⟨o1, o2⟩, d1, d2⟩ h.1
      · have hd : 0 < d := by
          by_cases hd : 0 < d
          · exact hd
          · exact (when_slow (by omega) t1 u2 htu (by omega) (by omega) hno).elim
        clear hno
        go_wp2_with fail
        go_ret
        exact ⟨by simp, hB3.alloc (by omega) _⟩
      · by_cases hd : 0 ≤ d
        · have hlh := when_fast hd d1 d2 hok
          subst hlh
          clear hok
          go_wp2_with fail
          all_goals
            go_ret
            exact ⟨by simp, hB3.alloc (by omega) _⟩
        · clear hok
          go_wp2_with fail
          go_ret
          exact ⟨by simp, hB3.alloc (by omega) _⟩
  · clear hn
    go_wp2_with fail
    go_ret
    exact ⟨rfl, hB2⟩

theorem atZ_off (o d t m : Int) : atZ (o + m) d t = atZ o d t + m := by
  unfold atZ
  omega

theorem whenIs_off {o d s m lo hi er lo' hi' er' : Int} (hm : 0 ≤ m) (ho : o + m ≤ 1000000000) (hv : (-1000000000 ≤ o ∧ o ≤ 1000000000) ∧ (-50 ≤ d ∧ d ≤ 50)) (h : WhenIs o d s lo hi er) (h' : WhenIs (o + m) d (s + m) lo' hi' er') :
    lo' = lo ∧ hi' = hi ∧ er' = er := by
  rcases h with h | ⟨_, hn, rfl, rfl, rfl⟩ | ⟨_, ⟨l0, lh, h1, h⟩, rfl⟩
  · exact absurd hv h.1
  · rcases h' with h' | ⟨_, _, rfl, rfl, rfl⟩ | ⟨_, ⟨l0', lh', h1', h'⟩, rfl⟩
    · exact absurd (by omega) h'.1
    · exact ⟨rfl, rfl, rfl⟩
    · have := (h' lo' (by omega) (by omega)).2 ⟨by omega, by omega⟩
      rw [atZ_off] at this
      exact absurd (by omega) (hn lo' (by omega) (by omega))
  · rcases h' with h' | ⟨_, hn', rfl, rfl, rfl⟩ | ⟨_, ⟨l0', lh', h1', h'⟩, rfl⟩
    · exact absurd (by omega) h'.1
    · have := (h lo (by omega) (by omega)).2 ⟨by omega, by omega⟩
      have k := hn' lo (by omega) (by omega)
      rw [atZ_off] at k
      exact absurd (by omega) k
    · have e1 := (h lo (by omega) (by omega)).2 ⟨by omega, by omega⟩
      have e2 := (h hi (by omega) (by omega)).2 ⟨by omega, by omega⟩
      have e3 := (h' lo' (by omega) (by omega)).2 ⟨by omega, by omega⟩
      have e4 := (h' hi' (by omega) (by omega)).2 ⟨by omega, by omega⟩
      rw [atZ_off] at e3 e4
      have f1 := (h lo' (by omega) (by omega)).1 (by omega)
      have f2 := (h hi' (by omega) (by omega)).1 (by omega)
      have f3 := (h' lo (by omega) (by omega)).1 (by rw [atZ_off]; omega)
      have f4 := (h' hi (by omega) (by omega)).1 (by rw [atZ_off]; omega)
      exact ⟨by omega, by omega, rfl⟩

theorem showIs_off {o d t m v er v' er' : Int} (hm : 0 ≤ m) (ho : o + m ≤ 1000000000) (hv : (-1000000000 ≤ o ∧ o ≤ 1000000000) ∧ (-50 ≤ d ∧ d ≤ 50)) (h : ShowIs o d t v er) (h' : ShowIs (o + m) d t v' er') :
    (er = 0 ∧ er' = 0 ∧ v' = v + m ∧ -1500000000 ≤ v ∧ v ≤ 10002000000000) ∨ (er = 1 ∧ er' = 1 ∧ v = 0 ∧ v' = 0) := by
  unfold ShowIs at h h'
  have hv' : Vld (o + m) d := by unfold Vld; omega
  rcases h with ⟨_, ht, rfl, rfl⟩ | ⟨hn, rfl, rfl⟩
  · have b := atZ_bd o d t hv.1.1 hv.1.2 hv.2.1 hv.2.2 ht.1 ht.2
    rcases h' with ⟨_, _, rfl, rfl⟩ | ⟨hn, rfl, rfl⟩
    · exact .inl ⟨rfl, rfl, atZ_off o d t m, b.1, b.2⟩
    · exact absurd ⟨hv', ht⟩ hn
  · rcases h' with ⟨_, ht, rfl, rfl⟩ | ⟨hn, rfl, rfl⟩
    · exact absurd ⟨hv, ht⟩ hn
    · exact .inr ⟨rfl, rfl, rfl, rfl⟩

end Go.Proofs.Ytgaelpbchplmkaa
