import Derived.Test.YtadiocpcpjbjpaaSd
namespace Go.Proofs.Ytadiocpcpjbjpaa
open Go.RowKit

/-- The tables so far, with rows of their own. -/
def AfB (M : Nat) (ag : Option Addr) (cg : Nat) (af : List Tb) (W : World) : Prop :=
  W.ownsRow M 26 3 (.slice ag af.length cg) af.length (af.map tbV).flatten ∧
  ∀ x ∈ af, W.ownsRow M 35 4 (.slice x.uA x.uL x.uC) x.uL (x.us.map usV).flatten ∧ W.ownsRow M 38 5 (.slice x.gA x.gL x.gC) x.gL (x.gs.map grV).flatten
theorem AfB.below {M : Nat} {ag : Option Addr} {cg : Nat} {af : List Tb} {W W' : World} (h : AfB M ag cg af W) (hb : Below W.heap.size W W') : AfB M ag cg af W' :=
  ⟨owns_below h.1 hb (Nat.le_refl _), fun x hx => ⟨owns_below (h.2 x hx).1 hb (Nat.le_refl _), owns_below (h.2 x hx).2 hb (Nat.le_refl _)⟩⟩

/-- A node's new table. -/
structure Yd (M : Nat) (ag : Option Addr) (cg : Nat) (af : List Tb) (t : Tb) (now : Int) (me : Int) (L : List Nr) (t2 : Tb) (W : World) : Prop where
  old : AfB M ag cg af W
  u : W.ownsRow M 35 4 (.slice t2.uA t2.uL t2.uC) t2.uL (t2.us.map usV).flatten
  g : W.ownsRow M 38 5 (.slice t2.gA t2.gL t2.gC) t2.gL (t2.gs.map grV).flatten
  kA : t2.kA = t.kA
  kL : t2.kL = t.kL
  kC : t2.kC = t.kC
  us : t2.us = t.us.filter (keepU now me L)
  gs : t2.gs = t.gs.filter (keepG now L)
  ks : t2.ks = t.ks

theorem heard_kept {g tn tc i : Nat} {hs : List (List Bool)} {ta : Option Addr} {ts : List Tb} {fr : Int} {b : Nat} {t : Tb} {M : Nat} {ag : Option Addr} {cg : Nat} {af : List Tb} {A W : World} (hH : HearsOk A (.slice (some ⟨g, 0, none⟩) tn tn) (symL hs tn)) (hT : TabsOk A (.slice ta tn tc) ts)
    (hi : i < tn) (h12 : tn ≤ 12) (hP : AfB M ag cg af W) (h : TS b t A W) :
    Calls Try.prog 23 #[.slice (some ⟨g, 0, none⟩) tn tn, .slice ta tn tc, .int .i64 (i : Int), .int .i64 fr] W fun e w' => ∃ a n c, e = .returned (.slice a n c) ∧ (NearOk w' (.slice a n c) (heardL (rowS hs tn i) ts fr tn) ∧ AfB M ag cg af w') ∧ TS b t A w' := by
  refine (heard_any (some ⟨g, 0, none⟩) tn tn (symL hs tn) ta tn tc ts i fr (rowS hs tn i) W (hH.below h.2.2.2 (Nat.le_refl _)) (hT.below h.2.2.2 (Nat.le_refl _)) (symL_at hi) (by simp [rowS]) h12).mono ?_
  rintro e w' ⟨a, c, q1, q2, q3⟩
  exact ⟨a, _, c, q1, ⟨q2, hP.below q3⟩, h.on q3⟩
theorem yield_new {t : Tb} {me now : Int} {a : Option Addr} {n c : Nat} {L : List Nr} {b : Nat} {M : Nat} {ag : Option Addr} {cg : Nat} {af : List Tb} {A W : World} (ht : TbOk A t) (hu : t.uL ≤ 40) (hg : t.gL ≤ 40) (hM : M ≤ A.heap.size)
    (h1 : NearOk W (.slice a n c) L ∧ AfB M ag cg af W) (h : TS b t A W) :
    Calls Try.prog 13 #[.agg #[.slice t.uA t.uL t.uC, .slice t.gA t.gL t.gC, .slice t.kA t.kL t.kC], .int .i64 me, .slice a n c, .int .i64 now] W fun e w' =>
      ∃ t2 : Tb, e = .returned (.agg #[.slice t2.uA t2.uL t2.uC, .slice t2.gA t2.gL t2.gC, .slice t2.kA t2.kL t2.kC]) ∧ Yd M ag cg af t now me L t2 w' ∧ TS b t A w' := by
  have hl := h1.1.1.length
  simp only [List.length_map] at hl
  refine (yield_own t me now a n c L W hl.2 hl.1 (ht.below h.2.2.2 (Nat.le_refl _)) h1.1 (by omega) (by omega)).mono ?_
  rintro e w' ⟨t2, q1, ⟨q2, q3, q4, q5, q6⟩, q7, q8, q9, q10⟩
  have hs := h.2.2.2.size
  exact ⟨t2, q1, ⟨h1.2.below q10, owns_base2 q2 (by omega), owns_base2 q3 (by omega), q4, q5, q6, q7, q8, q9⟩, h.on q10⟩

theorem tbV_one (t : Tb) : ∀ u ∈ tbV t, u.oneCell' = true := by
  intro u hu
  simp only [tbV, List.mem_cons, List.not_mem_nil, or_false] at hu
  rcases hu with rfl | rfl | rfl <;> rfl

set_option maxRecDepth 100000 in
set_option maxHeartbeats 4000000 in
theorem ClaimsSettle_walk (ha : Option Addr) (hn hc : Nat) (hs : List (List Bool)) (ta : Option Addr) (tn tc : Nat) (ts : List Tb) (x : Int) (la : Option Addr) (ln lc : Nat) (ls : List Bool) (w : World) (hH : HearsOk w (.slice ha hn hc) hs) (hT : TabsOk w (.slice ta tn tc) ts)
    (hx : 0 ≤ x ∧ x ≤ 4294967295) (hL : BoolsOk w (.slice la ln lc) ls) :
    Calls Try.prog 7 #[.slice ha hn hc, .slice ta tn tc, .int .u32 x, .slice la ln lc] w fun e w' => e = .returned (.bool true) ∧ Below w.heap.size w w' := by
  have LT := Lib.hid hT.length
  have LL := Lib.hid hL.length
  have ml : ln ≤ 9223372036854775807 := by have := LL.out; unfold maxLen at this; omega
  obtain ⟨hx0, hx1⟩ := hx
  go_enter Try.func7, Try.ntmps7
  go_wp2_with fail
  refine (head_any _).mono ?_
  rintro e w1 ⟨rfl, hB1⟩
  go_wp2_with fail
  refine (fewHT_any ha ta hn hc tn tc hs ts w1 (hH.below hB1 (Nat.le_refl _)) (hT.below hB1 (Nat.le_refl _))).mono ?_
  rintro e w2 ⟨rfl, hb2⟩
  have hB2 := hB1.trans (hb2.mono hB1.size)
  clear hB1 hb2
  cases hft : fewHT hs ts with
  | false =>
    clear hft
    go_wp2_with fail
    go_ret
    exact ⟨rfl, hB2⟩
  | true =>
    unfold fewHT at hft
    simp only [Bool.and_eq_true, decide_eq_true_eq] at hft
    obtain ⟨⟨⟨f1, f2⟩, f3⟩, f4⟩ := hft
    have h12 : tn ≤ 12 := by have := LT.out; omega
    have h40 : ∀ t ∈ ts, t.uL ≤ 40 ∧ t.gL ≤ 40 := fun t hm => by
      have := of_decide_eq_true (List.all_eq_true.1 f1 t hm)
      exact ⟨this.1, this.2.1⟩
    have H40 := Lib.hid h40
    clear f1 f2 f3 f4 h40
    go_wp2_with fail
    refine (symmetric_any ha hn hc tn hs w2 (hH.below hB2 (Nat.le_refl _)) h12).mono ?_
    rintro e w6 ⟨g, rfl, hMat⟩
    have hB6 := hB2.trans (hMat.2.2.1.mono hB2.size)
    have hH6 := hMat.hears (by unfold maxLen; omega)
    have hT6 := hT.below hB6 (Nat.le_refl _)
    clear hMat hB2
    go_wp2_with fail
    obtain ⟨now, hnow⟩ : ∃ now : Int, 1 + x = now := ⟨_, rfl⟩
    have hn1 : 1 ≤ now := by omega
    have hn2 : now ≤ 4294967296 := by omega
    simp only [hnow]
    clear hnow hx0 hx1
    go_loopw [12, 31] (fun v i wr => ∃ (j : Nat) (af : List Tb) (ag : Option Addr) (cg : Nat), i = .int .i64 j ∧ j ≤ tn ∧ v = .slice ag af.length cg ∧ af.length = j ∧ AfB w6.heap.size ag cg af wr ∧ (∀ x ∈ af, Rows 3 w6 (.slice x.kA x.kL x.kC) (x.ks.map akV) ∧ x.uL ≤ 40 ∧ x.gL ≤ 40) ∧
      (∀ i x, af[i]? = some x → AfterOf hs ts now i x) ∧ Below w6.heap.size w6 wr) (fun _ i _ => tn - (intOf i).toNat)
    case atStart => exact ⟨0, [], none, 0, rfl, by omega, rfl, rfl, ⟨World.ownsRow_nil _ _ _ _, by simp⟩, by simp, by simp, Below.refl _ _⟩
    case round =>
      obtain ⟨j, af, ag, cg, rfl, hj, rfl, hafl, hP, hK3, hAf, hB⟩ := hrel
      have HAFL := Lib.hid hafl
      have HK3 := Lib.hid hK3
      have HAF := Lib.hid hAf
      clear hafl hK3 hAf
      by_cases hlt : j < tn
      · obtain ⟨t, htj⟩ : ∃ t, ts[j]? = some t := ⟨ts[j]'(by have := LT.out.1; omega), List.getElem?_eq_getElem _⟩
        obtain ⟨b, off, hix, d0, d1, d2, tok⟩ := tab_at (hT6.below hB (Nat.le_refl _)) htj
        have z := cell_block d0
        have tok6 := hT6.2 t (List.mem_of_getElem? htj)
        have hu40 := (H40.out t (List.mem_of_getElem? htj)).1
        have hg40 := (H40.out t (List.mem_of_getElem? htj)).2
        have HTJ := Lib.hid htj
        clear htj tok
        have hcase : j ≥ ln ∨ (j < ln ∧ ls[j]? = some false) ∨ (j < ln ∧ ls[j]? = some true) := by
          by_cases h : j < ln
          · have hl : j < ls.length := by have := LL.out.1; simp at this; omega
            rw [List.getElem?_eq_getElem hl]
            cases ls[j] <;> simp [h]
          · exact .inl (by omega)
        go_upto_region 11 with fail
        clear hix d0 d1 d2 z
        refine wp_name ?_
        intro W1 hW1
        have hb1 : Below wr.heap.size wr W1 := by rw [hW1]; exact (Below.refl _ _).alloc (Nat.le_refl _) _
        have s0 : W1.cell? ⟨wr.heap.size, 0, none⟩ = some (.slice t.uA t.uL t.uC) := by rw [hW1]; go_simp
        have s1 : W1.cell? ⟨wr.heap.size, 1, none⟩ = some (.slice t.gA t.gL t.gC) := by rw [hW1]; go_simp
        have s2 : W1.cell? ⟨wr.heap.size, 2, none⟩ = some (.slice t.kA t.kL t.kC) := by rw [hW1]; go_simp
        have hP1 := hP.below hb1
        have hBw := hB.trans (hb1.mono hB.size)
        have hTS : TS wr.heap.size t w6 W1 := ⟨s0, s1, s2, hBw⟩
        have hne : (Value.slice ag af.length cg).ownBlock ≠ some wr.heap.size := fun e => by have := (hP.1.lt _ e).2; omega
        obtain ⟨b14, hb14⟩ : ∃ b14, wr.heap.size = b14 := ⟨_, rfl⟩
        rw [hb14] at hTS hne ⊢
        have HNE := Lib.hid hne
        clear hW1 hb1 s0 s1 s2 hP hB hb14 hne
        obtain ⟨i26, hi26, hz26, hs26, hb26⟩ := info_parts info26
        rcases hcase with h1 | ⟨h1, h2⟩ | ⟨h1, h2⟩
        · have e1 : decide (j < ln) = false := decide_eq_false (by omega)
          clear h1
          go_upto_region 13 with fail
          clear e1
          have hTS0 : TS b14 t w6 W1.drew := TS.on hTS ((Below.refl _ _).drew)
          have hP0 : AfB w6.heap.size ag cg af W1.drew := hP1.below ((Below.refl _ _).drew)
          go_region_held3 (fun W' => W'.cell? ⟨b14, 0, none⟩ = some (.slice t.uA t.uL t.uC) ∧ W'.cell? ⟨b14, 1, none⟩ = some (.slice t.gA t.gL t.gC) ∧ W'.cell? ⟨b14, 2, none⟩ = some (.slice t.kA t.kL t.kC) ∧ Below w6.heap.size w6 W')
            (first | with_reducible assumption | with_reducible exact TS.on hS ((Below.refl _ _).alloc (Nat.le_refl _) _))
            (first
              | (go_at_call 23; with_reducible refine (heard_kept hH6 hT6 hlt h12 hP0 (by with_reducible assumption)).mono ?_; rintro e w' ⟨a1, n1, c1, rfl, h1, hS⟩)
              | (go_at_call 13; with_reducible refine (yield_new tok6 hu40 hg40 (Nat.le_refl _) h1 (by with_reducible assumption)).mono ?_; rintro e w' ⟨t2, rfl, h2, hS⟩)
              | (rw [if_pos (by rfl)]; refine wp_append_own _ _ _ 41 rfl w6.heap.size 26 i26 (.agg #[.slice none 0 0, .slice none 0 0, .slice none 0 0]) 3 72 Try.underlying41 hi26 hz26 hs26 hb26 rfl (by decide) (.slice ag af.length cg) af.length (af.map tbV).flatten rfl (h2.old.1.alloc _) ⟨w'.heap.size, 0, none⟩ 1 1 (tbV t2) rfl rfl (cells_new w' (tbV t2) 26) (tbV_one t2) (by unfold maxLen; have := HAFL.out; omega) (by have := HAFL.out; omega) (by simp; have := hS.2.2.2.size; omega) ?_; intro v' wz hown hg _; have hSa := TS.on hS ((Below.refl _ w').alloc (Nat.le_refl _) (.cells (tbV t2).toArray 26)); have hSz : TS b14 t w6 wz := ⟨hg.cell hSa.1 (fun e => HNE.out e.symm), hg.cell hSa.2.1 (fun e => HNE.out e.symm), hg.cell hSa.2.2.1 (fun e => HNE.out e.symm), hSa.2.2.2.grown hg hSa.2.2.2.size (fun k e => (h2.old.1.lt k e).1)⟩))
          obtain ⟨g', cap', rfl⟩ := ownsRow_succ hown
          have hal : Below w'.heap.size w' (w'.alloc (.cells (tbV t2).toArray 26)) := (Below.refl _ _).alloc (Nat.le_refl _) _
          have hnew : AfB w6.heap.size (some ⟨g', 0, none⟩) cap' (af ++ [t2]) wz := by
            refine ⟨?_, fun q hq => ?_⟩
            · rw [List.map_append, List.flatten_append, List.length_append]
              simp only [List.map_cons, List.map_nil, List.flatten_cons, List.flatten_nil, List.append_nil, List.length_cons, List.length_nil]
              exact hown
            · rcases List.mem_append.1 hq with hq | hq
              · exact ⟨owns_type (owns_below (h2.old.2 q hq).1 hal (Nat.le_refl _)) (h2.old.1.alloc _) (show (35 : Nat) ≠ 26 from by decide) hg, owns_type (owns_below (h2.old.2 q hq).2 hal (Nat.le_refl _)) (h2.old.1.alloc _) (show (38 : Nat) ≠ 26 from by decide) hg⟩
              · obtain rfl := List.mem_singleton.1 hq
                exact ⟨owns_type (owns_below h2.u hal (Nat.le_refl _)) (h2.old.1.alloc _) (show (35 : Nat) ≠ 26 from by decide) hg, owns_type (owns_below h2.g hal (Nat.le_refl _)) (h2.old.1.alloc _) (show (38 : Nat) ≠ 26 from by decide) hg⟩
          have hul : t2.uL ≤ 40 := by
            have h3 := h2.u.1
            rw [flat_len (k := 4) _ (by intro cs h; obtain ⟨x, _, rfl⟩ := List.mem_map.1 h; rfl), List.length_map] at h3
            have h4 := List.length_filter_le (keepU now j (heardL (rowS hs tn j) ts now tn)) t.us
            rw [← h2.us] at h4
            have h5 := tok6.1.length.1
            rw [List.length_map] at h5
            omega
          have hgl : t2.gL ≤ 40 := by
            have h3 := h2.g.1
            rw [flat_len (k := 5) _ (by intro cs h; obtain ⟨x, _, rfl⟩ := List.mem_map.1 h; rfl), List.length_map] at h3
            have h4 := List.length_filter_le (keepG now (heardL (rowS hs tn j) ts now tn)) t.gs
            rw [← h2.gs] at h4
            have h5 := tok6.2.1.length.1
            rw [List.length_map] at h5
            omega
          have hk3 : ∀ q ∈ af ++ [t2], Rows 3 w6 (.slice q.kA q.kL q.kC) (q.ks.map akV) ∧ q.uL ≤ 40 ∧ q.gL ≤ 40 := fun q hq => by
            rcases List.mem_append.1 hq with hq | hq
            · exact HK3.out q hq
            · obtain rfl := List.mem_singleton.1 hq
              refine ⟨?_, hul, hgl⟩
              rw [h2.kA, h2.kL, h2.kC, h2.ks]
              exact tok6.2.2
          have haf : ∀ i q, (af ++ [t2])[i]? = some q → AfterOf hs ts now i q := fun i q hq => by
            by_cases hi : i < af.length
            · rw [List.getElem?_append_left hi] at hq
              exact HAF.out i q hq
            · rw [List.getElem?_append_right (by omega)] at hq
              have h3 := lt_of_some hq
              simp only [List.length_cons, List.length_nil] at h3
              have hij : i = j := by have := HAFL.out; omega
              rw [show i - af.length = 0 by omega] at hq
              simp only [List.getElem?_cons_zero, Option.some.injEq] at hq
              subst hq
              rw [hij]
              have hlt2 : tn = ts.length := LT.out.1
              refine ⟨t, now, HTJ.out, .inl rfl, ?_, ?_⟩
              · rw [← hlt2]; exact h2.us
              · rw [← hlt2]; exact h2.gs
          have HNEW := Lib.hid hnew
          have HK3' := Lib.hid hk3
          have HAF' := Lib.hid haf
          have HBZ := Lib.hid hSz.2.2.2
          clear hnew hk3 haf hSz hSa hg hown h2 h1 hS hal hTS hTS0 hP0 hP1 hBw
          go_wp2_with fail
          go_roundw
          case rel => exact ⟨j + 1, af ++ [t2], some ⟨g', 0, none⟩, cap', rfl, by omega, by rw [List.length_append]; rfl, by rw [List.length_append, HAFL.out]; rfl, HNEW.out, HK3'.out, HAF'.out, HBZ.out⟩
          case measure => simp [intOf]; omega
        · have e1 : decide (j < ln) = true := decide_eq_true h1
          obtain ⟨bb, ob, bix, q0⟩ := bit_at ((show Rows 1 w (.slice la ln lc) (ls.map boV) from hL).below (hB6.trans (hBw.mono hB6.size)) (Nat.le_refl _)) h2
          have zq := cell_block q0
          clear h1 h2
          go_upto_region 13 with fail
          clear e1 bix q0 zq
          have hTS0 : TS b14 t w6 W1.drew := TS.on hTS ((Below.refl _ _).drew)
          have hP0 : AfB w6.heap.size ag cg af W1.drew := hP1.below ((Below.refl _ _).drew)
          go_region_held3 (fun W' => W'.cell? ⟨b14, 0, none⟩ = some (.slice t.uA t.uL t.uC) ∧ W'.cell? ⟨b14, 1, none⟩ = some (.slice t.gA t.gL t.gC) ∧ W'.cell? ⟨b14, 2, none⟩ = some (.slice t.kA t.kL t.kC) ∧ Below w6.heap.size w6 W')
            (first | with_reducible assumption | with_reducible exact TS.on hS ((Below.refl _ _).alloc (Nat.le_refl _) _))
            (first
              | (go_at_call 23; with_reducible refine (heard_kept hH6 hT6 hlt h12 hP0 (by with_reducible assumption)).mono ?_; rintro e w' ⟨a1, n1, c1, rfl, h1, hS⟩)
              | (go_at_call 13; with_reducible refine (yield_new tok6 hu40 hg40 (Nat.le_refl _) h1 (by with_reducible assumption)).mono ?_; rintro e w' ⟨t2, rfl, h2, hS⟩)
              | (rw [if_pos (by rfl)]; refine wp_append_own _ _ _ 41 rfl w6.heap.size 26 i26 (.agg #[.slice none 0 0, .slice none 0 0, .slice none 0 0]) 3 72 Try.underlying41 hi26 hz26 hs26 hb26 rfl (by decide) (.slice ag af.length cg) af.length (af.map tbV).flatten rfl (h2.old.1.alloc _) ⟨w'.heap.size, 0, none⟩ 1 1 (tbV t2) rfl rfl (cells_new w' (tbV t2) 26) (tbV_one t2) (by unfold maxLen; have := HAFL.out; omega) (by have := HAFL.out; omega) (by simp; have := hS.2.2.2.size; omega) ?_; intro v' wz hown hg _; have hSa := TS.on hS ((Below.refl _ w').alloc (Nat.le_refl _) (.cells (tbV t2).toArray 26)); have hSz : TS b14 t w6 wz := ⟨hg.cell hSa.1 (fun e => HNE.out e.symm), hg.cell hSa.2.1 (fun e => HNE.out e.symm), hg.cell hSa.2.2.1 (fun e => HNE.out e.symm), hSa.2.2.2.grown hg hSa.2.2.2.size (fun k e => (h2.old.1.lt k e).1)⟩))
          obtain ⟨g', cap', rfl⟩ := ownsRow_succ hown
          have hal : Below w'.heap.size w' (w'.alloc (.cells (tbV t2).toArray 26)) := (Below.refl _ _).alloc (Nat.le_refl _) _
          have hnew : AfB w6.heap.size (some ⟨g', 0, none⟩) cap' (af ++ [t2]) wz := by
            refine ⟨?_, fun q hq => ?_⟩
            · rw [List.map_append, List.flatten_append, List.length_append]
              simp only [List.map_cons, List.map_nil, List.flatten_cons, List.flatten_nil, List.append_nil, List.length_cons, List.length_nil]
              exact hown
            · rcases List.mem_append.1 hq with hq | hq
              · exact ⟨owns_type (owns_below (h2.old.2 q hq).1 hal (Nat.le_refl _)) (h2.old.1.alloc _) (show (35 : Nat) ≠ 26 from by decide) hg, owns_type (owns_below (h2.old.2 q hq).2 hal (Nat.le_refl _)) (h2.old.1.alloc _) (show (38 : Nat) ≠ 26 from by decide) hg⟩
              · obtain rfl := List.mem_singleton.1 hq
                exact ⟨owns_type (owns_below h2.u hal (Nat.le_refl _)) (h2.old.1.alloc _) (show (35 : Nat) ≠ 26 from by decide) hg, owns_type (owns_below h2.g hal (Nat.le_refl _)) (h2.old.1.alloc _) (show (38 : Nat) ≠ 26 from by decide) hg⟩
          have hul : t2.uL ≤ 40 := by
            have h3 := h2.u.1
            rw [flat_len (k := 4) _ (by intro cs h; obtain ⟨x, _, rfl⟩ := List.mem_map.1 h; rfl), List.length_map] at h3
            have h4 := List.length_filter_le (keepU now j (heardL (rowS hs tn j) ts now tn)) t.us
            rw [← h2.us] at h4
            have h5 := tok6.1.length.1
            rw [List.length_map] at h5
            omega
          have hgl : t2.gL ≤ 40 := by
            have h3 := h2.g.1
            rw [flat_len (k := 5) _ (by intro cs h; obtain ⟨x, _, rfl⟩ := List.mem_map.1 h; rfl), List.length_map] at h3
            have h4 := List.length_filter_le (keepG now (heardL (rowS hs tn j) ts now tn)) t.gs
            rw [← h2.gs] at h4
            have h5 := tok6.2.1.length.1
            rw [List.length_map] at h5
            omega
          have hk3 : ∀ q ∈ af ++ [t2], Rows 3 w6 (.slice q.kA q.kL q.kC) (q.ks.map akV) ∧ q.uL ≤ 40 ∧ q.gL ≤ 40 := fun q hq => by
            rcases List.mem_append.1 hq with hq | hq
            · exact HK3.out q hq
            · obtain rfl := List.mem_singleton.1 hq
              refine ⟨?_, hul, hgl⟩
              rw [h2.kA, h2.kL, h2.kC, h2.ks]
              exact tok6.2.2
          have haf : ∀ i q, (af ++ [t2])[i]? = some q → AfterOf hs ts now i q := fun i q hq => by
            by_cases hi : i < af.length
            · rw [List.getElem?_append_left hi] at hq
              exact HAF.out i q hq
            · rw [List.getElem?_append_right (by omega)] at hq
              have h3 := lt_of_some hq
              simp only [List.length_cons, List.length_nil] at h3
              have hij : i = j := by have := HAFL.out; omega
              rw [show i - af.length = 0 by omega] at hq
              simp only [List.getElem?_cons_zero, Option.some.injEq] at hq
              subst hq
              rw [hij]
              have hlt2 : tn = ts.length := LT.out.1
              refine ⟨t, now, HTJ.out, .inl rfl, ?_, ?_⟩
              · rw [← hlt2]; exact h2.us
              · rw [← hlt2]; exact h2.gs
          have HNEW := Lib.hid hnew
          have HK3' := Lib.hid hk3
          have HAF' := Lib.hid haf
          have HBZ := Lib.hid hSz.2.2.2
          clear hnew hk3 haf hSz hSa hg hown h2 h1 hS hal hTS hTS0 hP0 hP1 hBw
          go_wp2_with fail
          go_roundw
          case rel => exact ⟨j + 1, af ++ [t2], some ⟨g', 0, none⟩, cap', rfl, by omega, by rw [List.length_append]; rfl, by rw [List.length_append, HAFL.out]; rfl, HNEW.out, HK3'.out, HAF'.out, HBZ.out⟩
          case measure => simp [intOf]; omega
        · have e1 : decide (j < ln) = true := decide_eq_true h1
          obtain ⟨bb, ob, bix, q0⟩ := bit_at ((show Rows 1 w (.slice la ln lc) (ls.map boV) from hL).below (hB6.trans (hBw.mono hB6.size)) (Nat.le_refl _)) h2
          have zq := cell_block q0
          clear h1 h2
          go_upto_region 13 with fail
          clear e1 bix q0 zq
          have hTS0 : TS b14 t w6 W1.drew := TS.on hTS ((Below.refl _ _).drew)
          have hP0 : AfB w6.heap.size ag cg af W1.drew := hP1.below ((Below.refl _ _).drew)
          go_region_held3 (fun W' => W'.cell? ⟨b14, 0, none⟩ = some (.slice t.uA t.uL t.uC) ∧ W'.cell? ⟨b14, 1, none⟩ = some (.slice t.gA t.gL t.gC) ∧ W'.cell? ⟨b14, 2, none⟩ = some (.slice t.kA t.kL t.kC) ∧ Below w6.heap.size w6 W')
            (first | with_reducible assumption | with_reducible exact TS.on hS ((Below.refl _ _).alloc (Nat.le_refl _) _))
            (first
              | (go_at_call 23; with_reducible refine (heard_kept hH6 hT6 hlt h12 hP0 (by with_reducible assumption)).mono ?_; rintro e w' ⟨a1, n1, c1, rfl, h1, hS⟩)
              | (go_at_call 13; with_reducible refine (yield_new tok6 hu40 hg40 (Nat.le_refl _) h1 (by with_reducible assumption)).mono ?_; rintro e w' ⟨t2, rfl, h2, hS⟩)
              | (rw [if_pos (by rfl)]; refine wp_append_own _ _ _ 41 rfl w6.heap.size 26 i26 (.agg #[.slice none 0 0, .slice none 0 0, .slice none 0 0]) 3 72 Try.underlying41 hi26 hz26 hs26 hb26 rfl (by decide) (.slice ag af.length cg) af.length (af.map tbV).flatten rfl (h2.old.1.alloc _) ⟨w'.heap.size, 0, none⟩ 1 1 (tbV t2) rfl rfl (cells_new w' (tbV t2) 26) (tbV_one t2) (by unfold maxLen; have := HAFL.out; omega) (by have := HAFL.out; omega) (by simp; have := hS.2.2.2.size; omega) ?_; intro v' wz hown hg _; have hSa := TS.on hS ((Below.refl _ w').alloc (Nat.le_refl _) (.cells (tbV t2).toArray 26)); have hSz : TS b14 t w6 wz := ⟨hg.cell hSa.1 (fun e => HNE.out e.symm), hg.cell hSa.2.1 (fun e => HNE.out e.symm), hg.cell hSa.2.2.1 (fun e => HNE.out e.symm), hSa.2.2.2.grown hg hSa.2.2.2.size (fun k e => (h2.old.1.lt k e).1)⟩))
          obtain ⟨g', cap', rfl⟩ := ownsRow_succ hown
          have hal : Below w'.heap.size w' (w'.alloc (.cells (tbV t2).toArray 26)) := (Below.refl _ _).alloc (Nat.le_refl _) _
          have hnew : AfB w6.heap.size (some ⟨g', 0, none⟩) cap' (af ++ [t2]) wz := by
            refine ⟨?_, fun q hq => ?_⟩
            · rw [List.map_append, List.flatten_append, List.length_append]
              simp only [List.map_cons, List.map_nil, List.flatten_cons, List.flatten_nil, List.append_nil, List.length_cons, List.length_nil]
              exact hown
            · rcases List.mem_append.1 hq with hq | hq
              · exact ⟨owns_type (owns_below (h2.old.2 q hq).1 hal (Nat.le_refl _)) (h2.old.1.alloc _) (show (35 : Nat) ≠ 26 from by decide) hg, owns_type (owns_below (h2.old.2 q hq).2 hal (Nat.le_refl _)) (h2.old.1.alloc _) (show (38 : Nat) ≠ 26 from by decide) hg⟩
              · obtain rfl := List.mem_singleton.1 hq
                exact ⟨owns_type (owns_below h2.u hal (Nat.le_refl _)) (h2.old.1.alloc _) (show (35 : Nat) ≠ 26 from by decide) hg, owns_type (owns_below h2.g hal (Nat.le_refl _)) (h2.old.1.alloc _) (show (38 : Nat) ≠ 26 from by decide) hg⟩
          have hul : t2.uL ≤ 40 := by
            have h3 := h2.u.1
            rw [flat_len (k := 4) _ (by intro cs h; obtain ⟨x, _, rfl⟩ := List.mem_map.1 h; rfl), List.length_map] at h3
            have h4 := List.length_filter_le (keepU now j (heardL (rowS hs tn j) ts (now - 1) tn)) t.us
            rw [← h2.us] at h4
            have h5 := tok6.1.length.1
            rw [List.length_map] at h5
            omega
          have hgl : t2.gL ≤ 40 := by
            have h3 := h2.g.1
            rw [flat_len (k := 5) _ (by intro cs h; obtain ⟨x, _, rfl⟩ := List.mem_map.1 h; rfl), List.length_map] at h3
            have h4 := List.length_filter_le (keepG now (heardL (rowS hs tn j) ts (now - 1) tn)) t.gs
            rw [← h2.gs] at h4
            have h5 := tok6.2.1.length.1
            rw [List.length_map] at h5
            omega
          have hk3 : ∀ q ∈ af ++ [t2], Rows 3 w6 (.slice q.kA q.kL q.kC) (q.ks.map akV) ∧ q.uL ≤ 40 ∧ q.gL ≤ 40 := fun q hq => by
            rcases List.mem_append.1 hq with hq | hq
            · exact HK3.out q hq
            · obtain rfl := List.mem_singleton.1 hq
              refine ⟨?_, hul, hgl⟩
              rw [h2.kA, h2.kL, h2.kC, h2.ks]
              exact tok6.2.2
          have haf : ∀ i q, (af ++ [t2])[i]? = some q → AfterOf hs ts now i q := fun i q hq => by
            by_cases hi : i < af.length
            · rw [List.getElem?_append_left hi] at hq
              exact HAF.out i q hq
            · rw [List.getElem?_append_right (by omega)] at hq
              have h3 := lt_of_some hq
              simp only [List.length_cons, List.length_nil] at h3
              have hij : i = j := by have := HAFL.out; omega
              rw [show i - af.length = 0 by omega] at hq
              simp only [List.getElem?_cons_zero, Option.some.injEq] at hq
              subst hq
              rw [hij]
              have hlt2 : tn = ts.length := LT.out.1
              refine ⟨t, (now - 1), HTJ.out, .inr rfl, ?_, ?_⟩
              · rw [← hlt2]; exact h2.us
              · rw [← hlt2]; exact h2.gs
          have HNEW := Lib.hid hnew
          have HK3' := Lib.hid hk3
          have HAF' := Lib.hid haf
          have HBZ := Lib.hid hSz.2.2.2
          clear hnew hk3 haf hSz hSa hg hown h2 h1 hS hal hTS hTS0 hP0 hP1 hBw
          go_wp2_with fail
          go_roundw
          case rel => exact ⟨j + 1, af ++ [t2], some ⟨g', 0, none⟩, cap', rfl, by omega, by rw [List.length_append]; rfl, by rw [List.length_append, HAFL.out]; rfl, HNEW.out, HK3'.out, HAF'.out, HBZ.out⟩
          case measure => simp [intOf]; omega
      · have hjt : j = tn := by omega
        have hTA : TabsOk wr (.slice ag af.length cg) af := by
          refine tabs_own hP.1 (fun x hx => ⟨?_, ?_, (HK3.out x hx).1.below hB (Nat.le_refl _)⟩)
          · have ho := (hP.2 x hx).1
            have hl : x.uL = (x.us.map usV).length := by
              have h1 := ho.1
              rw [flat_len (k := 4) _ (by intro cs h; obtain ⟨x, _, rfl⟩ := List.mem_map.1 h; rfl)] at h1
              omega
            exact owns_rows ho (x.us.map usV) hl rfl (by intro cs h; obtain ⟨x, _, rfl⟩ := List.mem_map.1 h; rfl)
          · have ho := (hP.2 x hx).2
            have hl : x.gL = (x.gs.map grV).length := by
              have h1 := ho.1
              rw [flat_len (k := 5) _ (by intro cs h; obtain ⟨x, _, rfl⟩ := List.mem_map.1 h; rfl)] at h1
              omega
            exact owns_rows ho (x.gs.map grV) hl rfl (by intro cs h; obtain ⟨x, _, rfl⟩ := List.mem_map.1 h; rfl)
        have hHw := hH6.below hB (Nat.le_refl _)
        have hlt2 : tn = ts.length := LT.out.1
        have hnil : clashesL (symL hs tn) af now = [] := by
          rw [hlt2]
          exact settle ⟨hn1, hn2⟩ (by rw [HAFL.out, hjt, hlt2]) HAF.out
        have HNIL := Lib.hid hnil
        have h40 : ∀ t ∈ af, t.uL ≤ 40 ∧ t.gL ≤ 40 := fun t ht => (HK3.out t ht).2
        have hal : af.length ≤ 12 := by have := HAFL.out; omega
        have hBx := hB6.trans (hB.mono hB6.size)
        clear hnil hlt2 hP hB hjt
        go_wp2_with fail
        refine (clashes_any (some ⟨g, 0, none⟩) ag tn tn af.length cg now (symL hs tn) af wr hHw hTA hal h40).mono ?_
        rintro e w9 ⟨ca, cc, rfl, _, hb9⟩
        rw [HNIL.out]
        have hB9 := hBx.trans (hb9.mono hBx.size)
        clear hb9
        simp only [List.length_nil]
        go_wp2_with fail
        go_ret
        exact ⟨rfl, hB9⟩

end Go.Proofs.Ytadiocpcpjbjpaa
