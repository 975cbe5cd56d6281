import Derived.Test.YtadiocpcpjbjpaaRc
namespace Go.Proofs.Ytadiocpcpjbjpaa
open Go.RowKit

theorem yieldR_kept (t : Tb) (me fr : Int) (a : Option Addr) (n cap : Nat) (near : List Nr) {t1 : Tb} {b : Nat} {A W : World} (ht : TbOk A t) (hnear : NearOk A (.slice a n cap) near) (hu : t.uL ≤ 40) (hg : t.gL ≤ 40)
    (h1 : TbOk W t1 ∧ t1.us = t.us.filter (keepU fr me near) ∧ t1.gs = t.gs.filter (keepG fr near) ∧ t1.ks = t.ks) (h : TS b t A W) :
    Calls Try.prog 19 #[.agg #[.slice t.uA t.uL t.uC, .slice t.gA t.gL t.gC, .slice t.kA t.kL t.kC], .int .i64 me, .slice a n cap, .int .i64 fr] W fun e w' =>
      ∃ t' : Tb, e = .returned (.agg #[.slice t'.uA t'.uL t'.uC, .slice t'.gA t'.gL t'.gC, .slice t'.kA t'.kL t'.kC]) ∧ (TbOk w' t1 ∧ TbOk w' t' ∧ t1.same t' = true) ∧ TS b t A w' := by
  refine (yieldR_any t me fr a n cap near W (ht.below h.2.2.2 (Nat.le_refl _)) (hnear.below h.2.2.2 (Nat.le_refl _)) (by omega) (by omega)).mono ?_
  rintro e w' ⟨t', q1, q2, q3, q4, q5, q6⟩
  exact ⟨t', q1, ⟨h1.1.below q6 (Nat.le_refl _), q2, same_of (h1.2.1.trans q3.symm) (h1.2.2.1.trans q4.symm) (h1.2.2.2.trans q5.symm)⟩, h.on q6⟩
theorem same_kept3 {s t' t : Tb} {b : Nat} {A W : World} (h3 : TbOk W s ∧ TbOk W t' ∧ s.same t' = true) (h : TS b t A W) :
    Calls Try.prog 18 #[.agg #[.slice s.uA s.uL s.uC, .slice s.gA s.gL s.gC, .slice s.kA s.kL s.kC], .agg #[.slice t'.uA t'.uL t'.uC, .slice t'.gA t'.gL t'.gC, .slice t'.kA t'.kL t'.kC]] W fun e w' => e = .returned (.bool true) ∧ TS b t A w' :=
  (same_any s t' W h3.1 h3.2.1).mono fun _ _ ⟨h1, h2⟩ => ⟨by rw [h1, h3.2.2], h.on h2⟩
theorem clashes_kept (ha ta : Option Addr) (hn hc tn tc : Nat) (fr : Int) (hs : List (List Bool)) (ts : List Tb) {t : Tb} {b : Nat} {A W : World} (hH : HearsOk A (.slice ha hn hc) hs) (hT : TabsOk A (.slice ta tn tc) ts)
    (h12 : tn ≤ 12) (h40 : ∀ t ∈ ts, t.uL ≤ 40 ∧ t.gL ≤ 40) (h : TS b t A W) :
    Calls Try.prog 17 #[.slice ha hn hc, .slice ta tn tc, .int .i64 fr] W fun e w' => ∃ a n cap, e = .returned (.slice a n cap) ∧ Rows 5 w' (.slice a n cap) ((clashesL hs ts fr).map chV) ∧ TS b t A w' := by
  refine (clashes_any ha ta hn hc tn tc fr hs ts W (hH.below h.2.2.2 (Nat.le_refl _)) (hT.below h.2.2.2 (Nat.le_refl _)) h12 h40).mono ?_
  rintro e w' ⟨a, cap, q1, q2, q3⟩
  exact ⟨a, _, cap, q1, q2, h.on q3⟩
theorem clashesR_kept (ha ta : Option Addr) (hn hc tn tc : Nat) (fr : Int) (hs : List (List Bool)) (ts : List Tb) {t : Tb} {b : Nat} {A W : World} (hH : HearsOk A (.slice ha hn hc) hs) (hT : TabsOk A (.slice ta tn tc) ts)
    (h12 : tn ≤ 12) (h40 : ∀ t ∈ ts, t.uL ≤ 40 ∧ t.gL ≤ 40) {v1 : Value} (h1 : Rows 5 W v1 ((clashesL hs ts fr).map chV)) (h : TS b t A W) :
    Calls Try.prog 21 #[.slice ha hn hc, .slice ta tn tc, .int .i64 fr] W fun e w' => ∃ a n cap, e = .returned (.slice a n cap) ∧ (Rows 5 w' v1 ((clashesL hs ts fr).map chV) ∧ Rows 5 w' (.slice a n cap) ((clashesL hs ts fr).map chV)) ∧ TS b t A w' := by
  refine (clashesR_any ha ta hn hc tn tc fr hs ts W (hH.below h.2.2.2 (Nat.le_refl _)) (hT.below h.2.2.2 (Nat.le_refl _)) h12 h40).mono ?_
  rintro e w' ⟨a, cap, q1, q2, q3⟩
  exact ⟨a, _, cap, q1, ⟨h1.below q3 (Nat.le_refl _), q2⟩, h.on q3⟩
theorem sameClashes_kept {xs : List Ch} {a a' : Option Addr} {n n' cap cap' : Nat} {t : Tb} {b : Nat} {A W : World} (h1 : Rows 5 W (.slice a n cap) (xs.map chV) ∧ Rows 5 W (.slice a' n' cap') (xs.map chV)) (h : TS b t A W) :
    Calls Try.prog 20 #[.slice a n cap, .slice a' n' cap'] W fun e w' => e = .returned (.bool true) ∧ TS b t A w' := by
  refine (sameClashes_any a a' n n' cap cap' xs xs W h1.1 h1.2).mono ?_
  rintro e w' ⟨q1, q2⟩
  exact ⟨by rw [q1, decide_eq_true rfl], h.on q2⟩

set_option maxRecDepth 100000 in
set_option maxHeartbeats 4000000 in
theorem ClaimsMatchesReference_walk (t : Tb) (me : Int) (a : Option Addr) (n cap : Nat) (near : List Nr) (fr : Int) (ha : Option Addr) (hn hc : Nat) (hs : List (List Bool)) (ta : Option Addr) (tn tc : Nat) (ts : List Tb) (w : World) (ht : TbOk w t) (hnear : NearOk w (.slice a n cap) near)
    (hH : HearsOk w (.slice ha hn hc) hs) (hT : TabsOk w (.slice ta tn tc) ts) :
    Calls Try.prog 5 #[.agg #[.slice t.uA t.uL t.uC, .slice t.gA t.gL t.gC, .slice t.kA t.kL t.kC], .int .i64 me, .slice a n cap, .int .i64 fr, .slice ha hn hc, .slice ta tn tc] w fun e w' => e = .returned (.bool true) ∧ Below w.heap.size w w' := by
  go_enter Try.func5, Try.ntmps5
  go_wp2_with fail
  refine (head_any _).mono ?_
  rintro e w1 ⟨rfl, hb1⟩
  obtain ⟨hc1, _⟩ := bcell hb1
  have c0 : w1.cell? ⟨w.heap.size, 0, none⟩ = some (.slice t.uA t.uL t.uC) := by rw [hc1 _ _ (by simp)]; go_simp
  have c1 : w1.cell? ⟨w.heap.size, 1, none⟩ = some (.slice t.gA t.gL t.gC) := by rw [hc1 _ _ (by simp)]; go_simp
  have c2 : w1.cell? ⟨w.heap.size, 2, none⟩ = some (.slice t.kA t.kL t.kC) := by rw [hc1 _ _ (by simp)]; go_simp
  have hB1 : Below w.heap.size w w1 := ((Below.refl _ w).alloc (Nat.le_refl _) _).trans (hb1.mono (by simp))
  have z1 : w.heap.size < w1.heap.size := cell_block c0
  clear hb1 hc1
  by_cases hlo : fr < -1152921504606846976
  · have hd : decide (fr < -1152921504606846976) = true := decide_eq_true hlo
    clear hlo
    go_wp2_with fail
    go_ret
    exact ⟨rfl, hB1⟩
  have hd : decide (fr < -1152921504606846976) = false := decide_eq_false hlo
  clear hlo
  go_wp2_with fail
  clear hd
  refine (few_any t w1).mono ?_
  rintro e w2 ⟨rfl, hb2⟩
  have hB2 := hB1.trans (hb2.mono hB1.size)
  obtain ⟨hc2, _⟩ := bcell hb2
  have c0' := (hc2 w.heap.size 0 z1).trans c0
  have c1' := (hc2 w.heap.size 1 z1).trans c1
  have c2' := (hc2 w.heap.size 2 z1).trans c2
  clear hb2 hc2 hB1 c0 c1 c2
  by_cases hfew : t.uL ≤ 40 ∧ t.gL ≤ 40 ∧ t.kL ≤ 40
  case neg =>
    have hd : decide (t.uL ≤ 40 ∧ t.gL ≤ 40 ∧ t.kL ≤ 40) = false := decide_eq_false hfew
    simp only [hd]
    clear hd hfew
    go_wp2_with fail
    go_ret
    exact ⟨rfl, hB2⟩
  have hd : decide (t.uL ≤ 40 ∧ t.gL ≤ 40 ∧ t.kL ≤ 40) = true := decide_eq_true hfew
  simp only [hd]
  clear hd
  go_wp2_with fail
  refine (fewNear_any a n cap near w2 (hnear.below hB2 (Nat.le_refl _))).mono ?_
  rintro e w3 ⟨rfl, hb3⟩
  have hB3 := hB2.trans (hb3.mono hB2.size)
  have z2 : w.heap.size < w2.heap.size := cell_block c0'
  obtain ⟨hc3, _⟩ := bcell hb3
  have c0 := (hc3 w.heap.size 0 z2).trans c0'
  have c1 := (hc3 w.heap.size 1 z2).trans c1'
  have c2 := (hc3 w.heap.size 2 z2).trans c2'
  clear hb3 hc3 hB2 c0' c1' c2' z1 z2
  cases hfn : (near.all fewB && decide (n ≤ 70)) with
  | false =>
    clear hfn
    go_wp2_with fail
    go_ret
    exact ⟨rfl, hB3⟩
  | true =>
    clear hfn
    have z3 : w.heap.size < w3.heap.size := cell_block c0
    have hu40 := hfew.1
    have hg40 := hfew.2.1
    go_wp2_with fail
    refine (fewHT_any ha ta hn hc tn tc hs ts w3 (hH.below hB3 (Nat.le_refl _)) (hT.below hB3 (Nat.le_refl _))).mono ?_
    rintro e w4 ⟨rfl, hb4⟩
    have d0 := cell_on hb4 c0
    have d1 := cell_on hb4 c1
    have d2 := cell_on hb4 c2
    have hB4 := hB3.trans (hb4.mono hB3.size)
    clear hb4 hB3 c0 c1 c2 hfew z3
    cases hft : fewHT hs ts with
    | false =>
      clear hft
      go_wp2_with fail
      go_ret
      exact ⟨rfl, hB4⟩
    | true =>
      unfold fewHT at hft
      simp only [Bool.and_eq_true, decide_eq_true_eq] at hft
      obtain ⟨⟨⟨f1, f2⟩, f3⟩, f4⟩ := hft
      have h12 : tn ≤ 12 := by have := hT.length; omega
      have h40 : ∀ t ∈ ts, t.uL ≤ 40 ∧ t.gL ≤ 40 := fun t hm => by
        have := of_decide_eq_true (List.all_eq_true.1 f1 t hm)
        exact ⟨this.1, this.2.1⟩
      have ht4 := ht.below hB4 (Nat.le_refl _)
      have hnear4 := hnear.below hB4 (Nat.le_refl _)
      have hH4 := hH.below hB4 (Nat.le_refl _)
      have hT4 := hT.below hB4 (Nat.le_refl _)
      have hTS : TS w.heap.size t w4 w4 := ⟨d0, d1, d2, Below.refl _ _⟩
      clear d0 d1 d2 f1 f2 f3 f4
      go_wp2_with fail
      go_region_held3 (fun W' => W'.cell? ⟨w.heap.size, 0, none⟩ = some (.slice t.uA t.uL t.uC) ∧ W'.cell? ⟨w.heap.size, 1, none⟩ = some (.slice t.gA t.gL t.gC) ∧ W'.cell? ⟨w.heap.size, 2, none⟩ = some (.slice t.kA t.kL t.kC) ∧ Below w4.heap.size w4 W')
        (first | with_reducible assumption | with_reducible exact TS.on hTS ((Below.refl _ _).drew))
        (first
          | (go_at_call 13; with_reducible refine (yield_kept t me fr a n cap near ht4 hnear4 hu40 hg40 (by with_reducible assumption)).mono ?_; rintro e w' ⟨t1, rfl, h1, hS⟩)
          | (go_at_call 19; with_reducible refine (yieldR_kept t me fr a n cap near ht4 hnear4 hu40 hg40 h1 (by with_reducible assumption)).mono ?_; rintro e w' ⟨t2, rfl, h2, hS⟩)
          | (go_at_call 18; with_reducible refine (same_kept3 h2 (by with_reducible assumption)).mono ?_; rintro e w' ⟨rfl, hS⟩)
          | (go_at_call 17; with_reducible refine (clashes_kept ha ta hn hc tn tc fr hs ts hH4 hT4 h12 h40 (by with_reducible assumption)).mono ?_; rintro e w' ⟨a1, n1, p1, rfl, h3, hS⟩)
          | (go_at_call 21; with_reducible refine (clashesR_kept ha ta hn hc tn tc fr hs ts hH4 hT4 h12 h40 h3 (by with_reducible assumption)).mono ?_; rintro e w' ⟨a2, n2, p2, rfl, h4, hS⟩)
          | (go_at_call 20; with_reducible refine (sameClashes_kept h4 (by with_reducible assumption)).mono ?_; rintro e w' ⟨rfl, hS⟩))
      have hB5 := hB4.trans (hS.2.2.2.mono hB4.size)
      clear hS
      go_wp2_with fail
      go_ret
      exact ⟨rfl, hB5⟩

end Go.Proofs.Ytadiocpcpjbjpaa
