import Derived.Test.YtadiocpcpjbjpaaT
namespace Go.Proofs.Ytadiocpcpjbjpaa
open Go.RowKit

theorem wpOp_val {P : Program} {ops : Array Oper} {Q : Exit → Act → World → Prop} {i : Nat} {o : Oper} {a : Act} {w w' : World} {v : Value} {K : Act → World → Prop} (ho : ops[i]? = some o) (hg : o.guard = none)
    (hr : (execOp a.eval o).run P w = .ok (.value v) w') (h : K (a.put o.dst v) w') : wpOp P ops Q i K a w := by
  have hw : Region.wanted o (yielded ops a.tmps) = true := by simp [Region.wanted, hg]
  simp only [wpOp, ho, hw, if_true]
  refine Or.inl ?_
  unfold Oper.wp
  rw [hr]
  exact h

theorem Blk.new' {w : World} {cs : Array Value} {T : TypeId} {n : Nat} (h : n = w.heap.size) : Blk (w.alloc (.cells cs T)) n cs T := by
  subst h
  exact Blk.new w cs T

set_option maxRecDepth 100000 in
set_option maxHeartbeats 1000000 in
theorem head_any (w : World) : Calls Try.prog 10 #[] w fun e w' => e = .returned (.bool true) ∧ Below w.heap.size w w' := by
  have hmk : ∀ w : World, (Instr.makeSlice 49 (.int .i64 5) (.int .i64 5)).run Try.prog w = .ok (.slice (some ⟨w.heap.size, 0, none⟩) 5 5) (w.alloc (.cells #[.bool false, .bool false, .bool false, .bool false, .bool false] 4)) := fun _ => by kernel_rfl
  go_enter Try.func10, Try.ntmps10
  go_wp2_with fail
  refine wp_name ?_
  intro W5 hW5
  have hB5 : Below w.heap.size w W5 := by
    rw [hW5]
    exact (((((((Below.refl _ _).alloc (Nat.le_refl _) _).alloc (by simp) _).alloc (by simp; omega) _).alloc (by simp; omega) _).alloc (by simp; omega) _).alloc (by simp; omega) _).alloc (by simp; omega) _
  have hA5 : HeadAt W5 w.heap.size := by
    rw [hW5]
    refine ⟨?_, ?_, ?_, ?_, ?_, ?_, ?_⟩
    · exact ((((((Blk.new' rfl).alloc _).alloc _).alloc _).alloc _).alloc _).alloc _
    · exact (((((Blk.new' (by simp)).alloc _).alloc _).alloc _).alloc _).alloc _
    · exact ((((Blk.new' (by simp)).alloc _).alloc _).alloc _).alloc _
    · exact (((Blk.new' (by simp)).alloc _).alloc _).alloc _
    · exact ((Blk.new' (by simp)).alloc _).alloc _
    · exact (Blk.new' (by simp)).alloc _
    · exact Blk.new' (by simp)
  clear hW5
  refine region_five rfl rfl (by simp) ?_ ?_ ?_ ?_ ?_ ?_ ?_ ?_ ?_
  · intro k hk K a w' h
    rcases k with _ | _ | _ | _ | _ | k
    · refine wpOp_val (w' := w'.alloc (.cells #[.bool false, .bool false, .bool false, .bool false, .bool false] 4)) rfl rfl ?_ h
      go_simp
    · refine wpOp_val (w' := w'.alloc (.cells #[.bool false, .bool false, .bool false, .bool true, .bool false] 4)) rfl rfl ?_ h
      go_simp
    · refine wpOp_val (w' := w'.alloc (.cells #[.bool false, .bool false, .bool false, .bool false, .bool false] 4)) rfl rfl ?_ h
      go_simp
    · refine wpOp_val (w' := w'.alloc (.cells #[.bool false, .bool true, .bool false, .bool false, .bool false] 4)) rfl rfl ?_ h
      go_simp
    · refine wpOp_val (w' := w'.alloc (.cells #[.bool false, .bool false, .bool false, .bool false, .bool false] 4)) rfl rfl ?_ h
      go_simp
    · exact (Nat.not_lt_of_le (Nat.le_add_left 5 k) hk).elim
  · intro K a w' h1 h
    refine wpOp_val (w' := w'.alloc (.cells #[a.tmps.getD 21 undef, a.tmps.getD 22 undef, a.tmps.getD 23 undef, a.tmps.getD 24 undef, a.tmps.getD 25 undef] 49)) rfl rfl ?_ h
    obtain ⟨b1, g1⟩ := h1 21 (by omega) (by omega)
    have k1 : a.tmps[21]?.getD undef = .slice (some ⟨b1, 0, none⟩) 5 5 := by rw [← g1]; simp [Array.getD_eq_getD_getElem?]
    obtain ⟨b2, g2⟩ := h1 22 (by omega) (by omega)
    have k2 : a.tmps[22]?.getD undef = .slice (some ⟨b2, 0, none⟩) 5 5 := by rw [← g2]; simp [Array.getD_eq_getD_getElem?]
    obtain ⟨b3, g3⟩ := h1 23 (by omega) (by omega)
    have k3 : a.tmps[23]?.getD undef = .slice (some ⟨b3, 0, none⟩) 5 5 := by rw [← g3]; simp [Array.getD_eq_getD_getElem?]
    obtain ⟨b4, g4⟩ := h1 24 (by omega) (by omega)
    have k4 : a.tmps[24]?.getD undef = .slice (some ⟨b4, 0, none⟩) 5 5 := by rw [← g4]; simp [Array.getD_eq_getD_getElem?]
    obtain ⟨b5, g5⟩ := h1 25 (by omega) (by omega)
    have k5 : a.tmps[25]?.getD undef = .slice (some ⟨b5, 0, none⟩) 5 5 := by rw [← g5]; simp [Array.getD_eq_getD_getElem?]
    simp only [g1, g2, g3, g4, g5]
    go_simp
  · intro K a w' h
    refine wpOp_val rfl rfl ?_ h
    go_simp
  · intro l h k hk
    obtain ⟨_, o, ho, he⟩ := mem_ready.1 h
    simp only [List.getElem?_toArray, List.getElem?_cons_succ, List.getElem?_cons_zero, Option.some.injEq] at ho
    subst ho
    rcases k with _ | _ | _ | _ | _ | k
    · exact he ⟨0, .data⟩ (by simp) rfl
    · exact he ⟨1, .data⟩ (by simp) rfl
    · exact he ⟨2, .data⟩ (by simp) rfl
    · exact he ⟨3, .data⟩ (by simp) rfl
    · exact he ⟨4, .data⟩ (by simp) rfl
    · omega
  · intro l h
    obtain ⟨_, o, ho, he⟩ := mem_ready.1 h
    simp only [List.getElem?_toArray, List.getElem?_cons_succ, List.getElem?_cons_zero, Option.some.injEq] at ho
    subst ho
    exact he ⟨5, .data⟩ (by simp) rfl
  · intro l k hk h
    refine mem_ready.2 ⟨h, ?_⟩
    rcases k with _ | _ | _ | _ | _ | k
    · exact ⟨_, rfl, by simp⟩
    · exact ⟨_, rfl, by simp⟩
    · exact ⟨_, rfl, by simp⟩
    · exact ⟨_, rfl, by simp⟩
    · exact ⟨_, rfl, by simp⟩
    · omega
  · intro l h hall
    refine mem_ready.2 ⟨h, _, rfl, ?_⟩
    intro e he _
    simp at he
    rcases he with rfl | rfl | rfl | rfl | rfl <;> exact hall _ (by decide)
  · intro l h hall
    refine mem_ready.2 ⟨h, _, rfl, ?_⟩
    intro e he _
    simp at he
    rcases he with rfl | rfl | rfl | rfl | rfl | rfl | rfl <;> exact hall _ (by decide)
  · intro v0 v1 v2 v3 v4 x W6 hH hB6
    have hA6 := hA5.below hB6
    have hB06 := hB5.trans (hB6.mono hB5.size)
    have hZ : w.heap.size + 7 ≤ W6.heap.size := by have := hA6.2.2.2.2.2.2.lt; omega
    clear hA5 hB6 hB5
    have a0 := hA6.1.cell 0
    have a1 := hA6.1.cell 1
    have b0 := hA6.2.2.1.cell 0
    have b1 := hA6.2.2.1.cell 1
    have b2 := hA6.2.2.1.cell 2
    have c0 := hA6.2.2.2.2.1.cell 0
    have c1 := hA6.2.2.2.2.1.cell 1
    have c2 := hA6.2.2.2.2.1.cell 2
    simp only [tbV, tabA, tabB, tabZ, List.getElem?_toArray, List.getElem?_cons_zero, List.getElem?_cons_succ] at a0 a1 b0 b1 b2 c0 c1 c2
    have z0 : w.heap.size < W6.heap.size := by omega
    have z1 : w.heap.size + 1 + 1 < W6.heap.size := by omega
    have z2 : w.heap.size + 1 + 1 + 1 + 1 < W6.heap.size := by omega
    simp only [seven, List.setIfInBounds_toArray, List.set_cons_zero, List.set_cons_succ]
    go_wp2_with fail
    refine (clashes_any x (some ⟨W6.heap.size, 0, none⟩) 5 5 5 5 9 headH (headT w.heap.size) _ (hH.below ((Below.refl _ _).alloc (Nat.le_refl _) _) (Nat.le_refl _)) (headT_ok hA6 rfl) (by omega) (by
      intro t ht
      simp only [headT, List.mem_cons, List.not_mem_nil, or_false] at ht
      rcases ht with rfl | rfl | rfl | rfl | rfl <;> simp [tabZ, tabA, tabB])).mono ?_
    rintro e W7 ⟨ca, cc, rfl, hrows, hB7⟩
    have hB67 : Below W6.heap.size W6 W7 := ((Below.refl _ _).alloc (Nat.le_refl _) _).trans (hB7.mono (by simp))
    have hA7 := hA6.below hB67
    have hB07 := hB06.trans (hB67.mono hB06.size)
    have hZ7 : w.heap.size + 7 ≤ W7.heap.size := by have := hB67.size; omega
    clear hA6 hB06 hB67 hB7 hZ a0 a1 b0 b1 b2 c0 c1 c2 z0 z1 z2
    have a0 := hA7.1.cell 0
    have a1 := hA7.1.cell 1
    simp only [List.getElem?_toArray, List.getElem?_cons_zero, List.getElem?_cons_succ] at a0 a1
    have z0 : w.heap.size < W7.heap.size := by omega
    rw [head_clashes] at hrows
    simp only [head_clashes, List.length_cons, List.length_nil, Nat.zero_add]
    go_wp2_with fail
    have hch : Blk (W7.alloc (.cells (chV ((2, 5), 3, 4, 1)).toArray 48)) W7.heap.size (chV ((2, 5), 3, 4, 1)).toArray 48 := Blk.new _ _ _
    refine (sameClashes_any ca (some ⟨W7.heap.size, 0, none⟩) 1 1 cc 1 [((2, 5), 3, 4, 1)] [((2, 5), 3, 4, 1)] _ (hrows.below ((Below.refl _ _).alloc (Nat.le_refl _) _) (Nat.le_refl _)) (rows_one hch rfl)).mono ?_
    rintro e W8 ⟨rfl, hB8⟩
    have hB78 : Below W7.heap.size W7 W8 := ((Below.refl _ _).alloc (Nat.le_refl _) _).trans (hB8.mono (by simp))
    have hA8 := hA7.below hB78
    have hB08 := hB07.trans (hB78.mono hB07.size)
    have hS8 := HS.of hA8 (Below.refl W8.heap.size W8)
    have hd : decide (([((2, 5), 3, 4, 1)] : List Ch) = [((2, 5), 3, 4, 1)]) = true := by decide
    rw [hd]
    clear hA7 hB07 hB78 hB8 hZ7 a0 a1 z0 hch hrows hd hA8
    go_wp2_with fail
    go_region_held3 (fun W' => W'.cell? ⟨w.heap.size + 1 + 1, 0, none⟩ = some (.slice (some ⟨w.heap.size + 1, 0, none⟩) 1 1) ∧ W'.cell? ⟨w.heap.size + 1 + 1, 1, none⟩ = some (.slice none 0 0) ∧ W'.cell? ⟨w.heap.size + 1 + 1, 2, none⟩ = some (.slice none 0 0) ∧
      W'.cell? ⟨w.heap.size + 1 + 1 + 1 + 1, 0, none⟩ = some (.slice none 0 0) ∧ W'.cell? ⟨w.heap.size + 1 + 1 + 1 + 1, 1, none⟩ = some (.slice (some ⟨w.heap.size + 1 + 1 + 1, 0, none⟩) 1 1) ∧ W'.cell? ⟨w.heap.size + 1 + 1 + 1 + 1, 2, none⟩ = some (.slice none 0 0) ∧
      W'.cell? ⟨w.heap.size + 1 + 1 + 1 + 1 + 1 + 1, 0, none⟩ = some (.slice none 0 0) ∧ W'.cell? ⟨w.heap.size + 1 + 1 + 1 + 1 + 1 + 1, 1, none⟩ = some (.slice (some ⟨w.heap.size + 1 + 1 + 1 + 1 + 1, 0, none⟩) 1 1) ∧ W'.cell? ⟨w.heap.size + 1 + 1 + 1 + 1 + 1 + 1, 2, none⟩ = some (.slice none 0 0) ∧
      HeadAt W' w.heap.size ∧ Below W8.heap.size W8 W')
      (first | with_reducible assumption | with_reducible exact HS.on hS8 ((Below.refl _ _).drew) | with_reducible exact HS.on hS ((Below.refl _ _).alloc (Nat.le_refl _) _))
      (first
        | (go_at_call 24; with_reducible refine (beacon1 (n := w.heap.size) (by with_reducible assumption)).mono ?_; rintro e w' ⟨rfl, hS⟩)
        | (go_at_call 13; with_reducible refine (yield1 (n := w.heap.size) (by with_reducible assumption)).mono ?_; rintro e w' ⟨t1, rfl, ht1, hS⟩)
        | (go_at_call 18; with_reducible refine (sameZ t1 (n := w.heap.size) ht1 (by with_reducible assumption)).mono ?_; rintro e w' ⟨rfl, hS⟩)
        | (go_at_call 24; with_reducible refine (beacon2 (n := w.heap.size) (by with_reducible assumption)).mono ?_; rintro e w' ⟨rfl, hS⟩)
        | (go_at_call 13; with_reducible refine (yield2 (n := w.heap.size) (by with_reducible assumption)).mono ?_; rintro e w' ⟨t2, rfl, ht2, hS⟩)
        | (go_at_call 18; with_reducible refine (sameB t2 (n := w.heap.size) ht2 (by with_reducible assumption)).mono ?_; rintro e w' ⟨rfl, hS⟩))
    obtain ⟨W9, hW9⟩ : ∃ W : World, W = w' := ⟨_, rfl⟩
    subst hW9
    have hB09 : Below w.heap.size w W9 := hB08.trans (hS.2.2.2.2.2.2.2.2.2.2.mono hB08.size)
    have hS9 := HS.of hS.tabs (Below.refl W9.heap.size W9)
    clear hS hB08 hS8
    go_wp2_with fail
    go_region_held3 (fun W' => W'.cell? ⟨w.heap.size + 1 + 1, 0, none⟩ = some (.slice (some ⟨w.heap.size + 1, 0, none⟩) 1 1) ∧ W'.cell? ⟨w.heap.size + 1 + 1, 1, none⟩ = some (.slice none 0 0) ∧ W'.cell? ⟨w.heap.size + 1 + 1, 2, none⟩ = some (.slice none 0 0) ∧
      W'.cell? ⟨w.heap.size + 1 + 1 + 1 + 1, 0, none⟩ = some (.slice none 0 0) ∧ W'.cell? ⟨w.heap.size + 1 + 1 + 1 + 1, 1, none⟩ = some (.slice (some ⟨w.heap.size + 1 + 1 + 1, 0, none⟩) 1 1) ∧ W'.cell? ⟨w.heap.size + 1 + 1 + 1 + 1, 2, none⟩ = some (.slice none 0 0) ∧
      W'.cell? ⟨w.heap.size + 1 + 1 + 1 + 1 + 1 + 1, 0, none⟩ = some (.slice none 0 0) ∧ W'.cell? ⟨w.heap.size + 1 + 1 + 1 + 1 + 1 + 1, 1, none⟩ = some (.slice (some ⟨w.heap.size + 1 + 1 + 1 + 1 + 1, 0, none⟩) 1 1) ∧ W'.cell? ⟨w.heap.size + 1 + 1 + 1 + 1 + 1 + 1, 2, none⟩ = some (.slice none 0 0) ∧
      HeadAt W' w.heap.size ∧ Below W9.heap.size W9 W')
      (first | with_reducible assumption | with_reducible exact HS.on hS9 ((Below.refl _ _).drew) | with_reducible exact HS.on hS ((Below.refl _ _).alloc (Nat.le_refl _) _))
      (first
        | (go_at_call 24; with_reducible refine (beacon3 (n := w.heap.size) (by with_reducible assumption)).mono ?_; rintro e w' ⟨rfl, hS⟩)
        | (go_at_call 13; with_reducible refine (yield3 (n := w.heap.size) (by with_reducible assumption)).mono ?_; rintro e w' ⟨t3, rfl, ht3, hS⟩)
        | (go_at_call 18; with_reducible refine (sameA t3 (n := w.heap.size) ht3 (by with_reducible assumption)).mono ?_; rintro e w' ⟨rfl, hS⟩)
        | (go_at_call 24; with_reducible refine (beacon4 (n := w.heap.size) (by with_reducible assumption)).mono ?_; rintro e w' ⟨rfl, hS⟩)
        | (go_at_call 13; with_reducible refine (yield4 (n := w.heap.size) (by with_reducible assumption)).mono ?_; rintro e w' ⟨t4, rfl, ht4, hS⟩)
        | (go_at_call 18; with_reducible refine (sameZ t4 (n := w.heap.size) ht4 (by with_reducible assumption)).mono ?_; rintro e w' ⟨rfl, hS⟩))
    obtain ⟨W10, hW10⟩ : ∃ W : World, W = w' := ⟨_, rfl⟩
    subst hW10
    have hB010 : Below w.heap.size w W10 := hB09.trans (hS.2.2.2.2.2.2.2.2.2.2.mono hB09.size)
    have hS10 := HS.of hS.tabs (Below.refl W10.heap.size W10)
    clear hS hB09 hS9
    go_wp2_with fail
    go_region_held3 (fun W' => W'.cell? ⟨w.heap.size + 1 + 1, 0, none⟩ = some (.slice (some ⟨w.heap.size + 1, 0, none⟩) 1 1) ∧ W'.cell? ⟨w.heap.size + 1 + 1, 1, none⟩ = some (.slice none 0 0) ∧ W'.cell? ⟨w.heap.size + 1 + 1, 2, none⟩ = some (.slice none 0 0) ∧
      W'.cell? ⟨w.heap.size + 1 + 1 + 1 + 1, 0, none⟩ = some (.slice none 0 0) ∧ W'.cell? ⟨w.heap.size + 1 + 1 + 1 + 1, 1, none⟩ = some (.slice (some ⟨w.heap.size + 1 + 1 + 1, 0, none⟩) 1 1) ∧ W'.cell? ⟨w.heap.size + 1 + 1 + 1 + 1, 2, none⟩ = some (.slice none 0 0) ∧
      W'.cell? ⟨w.heap.size + 1 + 1 + 1 + 1 + 1 + 1, 0, none⟩ = some (.slice none 0 0) ∧ W'.cell? ⟨w.heap.size + 1 + 1 + 1 + 1 + 1 + 1, 1, none⟩ = some (.slice (some ⟨w.heap.size + 1 + 1 + 1 + 1 + 1, 0, none⟩) 1 1) ∧ W'.cell? ⟨w.heap.size + 1 + 1 + 1 + 1 + 1 + 1, 2, none⟩ = some (.slice none 0 0) ∧
      HeadAt W' w.heap.size ∧ Below W10.heap.size W10 W')
      (first | with_reducible assumption | with_reducible exact HS.on hS10 ((Below.refl _ _).drew) | with_reducible exact HS.on hS ((Below.refl _ _).alloc (Nat.le_refl _) _))
      (first
        | (go_at_call 24; with_reducible refine (beacon5 (n := w.heap.size) (by with_reducible assumption)).mono ?_; rintro e w' ⟨rfl, hS⟩)
        | (go_at_call 13; with_reducible refine (yield5 (n := w.heap.size) (by with_reducible assumption)).mono ?_; rintro e w' ⟨t5, rfl, ht5, hS⟩)
        | (go_at_call 18; with_reducible refine (sameA t5 (n := w.heap.size) ht5 (by with_reducible assumption)).mono ?_; rintro e w' ⟨rfl, hS⟩))
    obtain ⟨W11, hW11⟩ : ∃ W : World, W = w' := ⟨_, rfl⟩
    subst hW11
    have hB011 : Below w.heap.size w W11 := hB010.trans (hS.2.2.2.2.2.2.2.2.2.2.mono hB010.size)
    have hS11 := HS.of hS.tabs (Below.refl W11.heap.size W11)
    clear hS hB010 hS10
    go_wp2_with fail
    go_ret
    exact ⟨rfl, hB011⟩

end Go.Proofs.Ytadiocpcpjbjpaa
