import Derived.Test.YtadiocpcpjbjpaaGa
namespace Go.Proofs.Ytadiocpcpjbjpaa
open Go.RowKit

/-! ### The reference's small functions -/
theorem better34 (s p o r : Int) (w : World) : Calls Try.prog 34 #[.int .i64 s, .int .i64 p, .int .i64 o, .int .i64 r] w fun e w' => e = .returned (.bool (betterB (s, p) (o, r))) ∧ w = w' := by
  by_cases h1 : s < o
  · have hd : decide (s < o) = true := decide_eq_true h1
    have H := Lib.hid h1
    clear h1
    go_enter Try.func34, Try.ntmps34
    go_wp2_with fail
    go_ret
    exact ⟨ret_bool (by simp [betterB, H.out]), rfl⟩
  · have hd : decide (s < o) = false := decide_eq_false h1
    have H := Lib.hid h1
    clear h1
    cases h2 : (s == o) with
    | false =>
      have H2 := Lib.hid h2
      go_enter Try.func34, Try.ntmps34
      go_wp2_with fail
      go_ret
      exact ⟨ret_bool (by simp only [betterB]; rw [decide_eq_false (by have := H.out; omega : ¬ s < o), H2.out]; rfl), rfl⟩
    | true =>
      have H2 := Lib.hid h2
      go_enter Try.func34, Try.ntmps34
      go_wp2_with fail
      go_ret
      exact ⟨ret_bool (by simp only [betterB]; rw [decide_eq_false (by have := H.out; omega : ¬ s < o), H2.out]; rfl), rfl⟩

set_option maxRecDepth 100000 in
theorem lately33 (x : Nr) (fr : Int) (w : World) : Calls Try.prog 33 #[.agg (nrV x).toArray, .int .i64 fr] w fun e w' => e = .returned (.bool (lateB fr x)) ∧ Below w.heap.size w w' := by
  obtain ⟨q0, q1⟩ := nr_new w x
  obtain ⟨cs, hcs⟩ : ∃ cs, (nrV x).toArray = cs := ⟨_, rfl⟩
  rw [hcs] at q0 ⊢
  have HCS := Lib.hid hcs
  clear hcs q1
  cases h1 : (x.frame == fr) with
  | true =>
    have H1 := Lib.hid h1
    go_enter Try.func33, Try.ntmps33
    go_wp2_with fail
    go_ret
    exact ⟨ret_bool (by simp [lateB, H1.out]), (Below.refl _ _).alloc (Nat.le_refl _) _⟩
  | false =>
    have H1 := Lib.hid h1
    go_enter Try.func33, Try.ntmps33
    go_wp2_with fail
    go_ret
    exact ⟨ret_bool (by simp [lateB, H1.out]), (Below.refl _ _).alloc (Nat.le_refl _) _⟩

theorem better_quiet {s p o r : Int} {w : World} {x : Bool} (h : betterB (s, p) (o, r) = x) : Calls Try.prog 34 #[.int .i64 s, .int .i64 p, .int .i64 o, .int .i64 r] w fun e w' => e = .returned (.bool x) ∧ w' = w := by
  subst h
  exact (better34 s p o r w).mono fun _ _ ⟨h1, h2⟩ => ⟨h1, h2.symm⟩

theorem any_step_false {α : Type} {l : List α} {k : Nat} {x : α} {p : α → Bool} (hx : l[k]? = some x) (h : (l.take k).any p = false) (hp : p x = false) : (l.take (k + 1)).any p = false := by
  rw [any_take_succ p hx, h, hp]; rfl
theorem any_found {α : Type} {l : List α} {k : Nat} {x : α} {p : α → Bool} (hx : l[k]? = some x) (hp : p x = true) : l.any p = true := List.any_eq_true.2 ⟨x, List.mem_of_getElem? hx, hp⟩

set_option maxRecDepth 100000 in
set_option maxHeartbeats 2000000 in
theorem lost27 (u : Us) (me fr : Int) (a : Option Addr) (n cap : Nat) (near : List Nr) (w : World) (hnear : NearOk w (.slice a n cap) near) :
    Calls Try.prog 27 #[.agg #[.int .i64 u.1.1, .int .i64 u.1.2, .int .i64 u.2.1, .int .i64 u.2.2], .int .i64 me, .slice a n cap, .int .i64 fr] w fun e w' => e = .returned (.bool (near.any (betU fr me u))) ∧ Below w.heap.size w w' := by
  have hlen := hnear.1.length
  simp only [List.length_map] at hlen
  obtain ⟨hn, hm⟩ := hlen
  unfold maxLen at hm
  have HN := Lib.hid hn
  clear hn
  go_enter Try.func27, Try.ntmps27
  go_wp2_with fail
  refine wp_name ?_
  intro W0 hW0
  have hB0 : Below w.heap.size w W0 := by rw [hW0]; exact (Below.refl _ _).alloc (Nat.le_refl _) _
  have s0 : W0.cell? ⟨w.heap.size, 0, none⟩ = some (.int .i64 u.1.1) := by rw [hW0]; go_simp
  have s1 : W0.cell? ⟨w.heap.size, 1, none⟩ = some (.int .i64 u.1.2) := by rw [hW0]; go_simp
  have s3 : W0.cell? ⟨w.heap.size, 3, none⟩ = some (.int .i64 u.2.2) := by rw [hW0]; go_simp
  clear hW0
  have hnear0 := hnear.below hB0 (Nat.le_refl _)
  go_loopw [9] (fun i wr => ∃ k : Nat, i = .int .i64 k ∧ k ≤ n ∧ (near.take k).any (betU fr me u) = false ∧ Below W0.heap.size W0 wr) (fun i _ => n - (intOf i).toNat)
  case atStart => exact ⟨0, rfl, by omega, by simp, Below.refl _ _⟩
  case round =>
    obtain ⟨k, rfl, hk, hx, hb⟩ := hrel
    by_cases hlt : k < n
    · obtain ⟨x, hxk⟩ : ∃ x, near[k]? = some x := ⟨near[k]'(by have := HN.out; omega), List.getElem?_eq_getElem _⟩
      obtain ⟨b, off, hix, hrg⟩ := nr_at (hnear0.1.below hb (Nat.le_refl _)) hxk
      have d1 : wr.cell? ⟨b, off + k * 31 + 1 + 12, none⟩ = some (.slice x.told.grantsA x.told.grantsL x.told.grantsC) := hrg 13 _ rfl
      have hrow := ((hnear0.2 x (List.mem_of_getElem? hxk)).below hb (Nat.le_refl _)).2
      have ly := hrow.length.1
      have my := hrow.length.2
      unfold maxLen at my
      rw [List.length_map] at ly
      have LY := Lib.hid ly
      have HXK := Lib.hid hxk
      have HX := Lib.hid hx
      have HR := Lib.hid hrg
      have z := cell_block d1
      clear ly hxk hx hrg
      go_wp2_with fail
      clear z d1
      obtain ⟨wo, rfl⟩ : ∃ wo : World, wo = wr := ⟨_, rfl⟩
      have hbo := hb
      go_loopw [11] (fun i wr => ∃ m : Nat, i = .int .i64 m ∧ m ≤ x.told.grantsL ∧ ((x.told.gs.take m).any (tellU fr me u) = false ∧ (m = 0 ∨ lateB fr x = true)) ∧ Below wo.heap.size wo wr) (fun i _ => x.told.grantsL - (intOf i).toNat)
      case atStart => exact ⟨0, rfl, by omega, ⟨by simp, .inl rfl⟩, Below.refl _ _⟩
      case round =>
        obtain ⟨m, rfl, hm2, ⟨hx2, hml⟩, hb2⟩ := hrel
        have HX2 := Lib.hid hx2
        have HML := Lib.hid hml
        clear hx2 hml
        by_cases hltm : m < x.told.grantsL
        · obtain ⟨g, hgk⟩ : ∃ g, x.told.gs[m]? = some g := ⟨x.told.gs[m]'(by have := LY.out; omega), List.getElem?_eq_getElem _⟩
          have HG := Lib.hid hgk
          have HR2 : Hid (wr.rangeAt b (off + k * 31) (nrV x)) := Lib.hid (fun j v hj => cell_on hb2 (HR.out j v hj))
          clear hgk
          go_wp2_with ((with_reducible refine wpList_load_row' ?_ 71 (.tmp 31) ?_ b (off + k * 31) ?_ (nrV x) _ HR2.out Try.underlying71 ?_ (info71 x) ?_); rfl; rfl; rfl; rfl)
          refine (lately33 x fr wr).mono ?_
          rintro e w3 ⟨rfl, hb3⟩
          have hB3 := hb2.trans (hb3.mono hb2.size)
          clear hb3
          cases hl : lateB fr x with
          | false =>
            have HL : Hid ((near.take (k + 1)).any (betU fr me u) = false) := Lib.hid (any_step_false HXK.out HX.out (by simp [betU, hl]))
            clear hl
            go_wp2_with fail
            go_roundw
            case rel => exact ⟨k + 1, rfl, by omega, HL.out, hbo.trans (hB3.mono hbo.size)⟩
            case measure => simp [intOf]; omega
          | true =>
            have HL := Lib.hid hl
            clear hl
            obtain ⟨gb, go, gix, g0, g1, g2, g3, g4⟩ := gr_at (hrow.below hB3 (Nat.le_refl _)) HG.out
            have hB03 := hbo.trans (hB3.mono hbo.size)
            have p0 := cell_on hB03 s0
            have p1 := cell_on hB03 s1
            have p3 := cell_on hB03 s3
            have zg := cell_block g0
            have zp := cell_block p0
            dsimp only at zg zp
            have hle := cl_eql g.1 u.1
            by_cases t1 : g.1 = u.1
            case neg =>
              have t1d : decide (g.1 = u.1) = false := decide_eq_false t1
              have HS := Lib.hid (any_step_false HG.out HX2.out (p := tellU fr me u) (by simp [tellU, t1]))
              clear t1
              go_wp2_with fail
              go_quiet (fail)
              go_wp2_with fail
              go_roundw
              case rel => exact ⟨m + 1, rfl, by omega, ⟨HS.out, .inr HL.out⟩, below_drewN hB3 _⟩
              case measure => simp [intOf]; omega
            have t1d : decide (g.1 = u.1) = true := decide_eq_true t1
            have T1 := Lib.hid t1
            clear t1
            cases t2 : (g.2.1 != me) with
            | false =>
              have HS := Lib.hid (any_step_false HG.out HX2.out (p := tellU fr me u) (by simp [tellU, t2]))
              go_wp2_with fail
              go_quiet (fail)
              go_wp2_with fail
              go_roundw
              case rel => exact ⟨m + 1, rfl, by omega, ⟨HS.out, .inr HL.out⟩, below_drewN hB3 _⟩
              case measure => simp [intOf]; omega
            | true =>
              have T2 := Lib.hid t2
              by_cases t3 : fr ≤ g.2.2.2
              case neg =>
                have t3d : decide (fr ≤ g.2.2.2) = false := decide_eq_false t3
                have HS := Lib.hid (any_step_false HG.out HX2.out (p := tellU fr me u) (by simp [tellU, t3]))
                clear t3
                go_wp2_with fail
                go_quiet (fail)
                go_wp2_with fail
                go_roundw
                case rel => exact ⟨m + 1, rfl, by omega, ⟨HS.out, .inr HL.out⟩, below_drewN hB3 _⟩
                case measure => simp [intOf]; omega
              have t3d : decide (fr ≤ g.2.2.2) = true := decide_eq_true t3
              have T3 := Lib.hid t3
              clear t3
              cases t4 : betterB (g.2.2.1, g.2.1) (u.2.2, me) with
              | false =>
                have HS := Lib.hid (any_step_false HG.out HX2.out (p := tellU fr me u) (by unfold betterB at t4; simp only [tellU]; simp only at t4; rw [t4, Bool.and_false]))
                go_wp2_with fail
                go_quiet ((go_at_call 34; exact Calls.quiet_of_same (better_quiet t4)))
                go_wp2_with fail
                go_roundw
                case rel => exact ⟨m + 1, rfl, by omega, ⟨HS.out, .inr HL.out⟩, below_drewN hB3 _⟩
                case measure => simp [intOf]; omega
              | true =>
                have HF : Hid (near.any (betU fr me u) = true) := Lib.hid (any_found HXK.out (by
                  have hg : x.told.gs.any (tellU fr me u) = true := any_found HG.out (by unfold betterB at t4; simp only [tellU]; simp only at t4; rw [t4, T1.out, T2.out, decide_eq_true T3.out]; simp)
                  simp [betU, HL.out, hg]))
                go_wp2_with fail
                go_quiet ((go_at_call 34; exact Calls.quiet_of_same (better_quiet t4)))
                go_wp2_with fail
                go_ret
                exact ⟨ret_bool HF.out.symm, below_drewN (hB0.trans (hB03.mono hB0.size)) _⟩
        · have HS : Hid ((near.take (k + 1)).any (betU fr me u) = false) := Lib.hid (any_step_false HXK.out HX.out (by
            have : x.told.gs.any (tellU fr me u) = false := by rw [← any_take_all (k := m) _ (by have := LY.out; omega), HX2.out]
            simp [betU, this]))
          go_wp2_with fail
          go_roundw
          case rel => exact ⟨k + 1, rfl, by omega, HS.out, hbo.trans (hb2.mono hbo.size)⟩
          case measure => simp [intOf]; omega
    · have HF : Hid (near.any (betU fr me u) = false) := Lib.hid (by rw [← any_take_all (k := k) _ (by have := HN.out; omega), hx])
      go_wp2_with fail
      go_ret
      exact ⟨ret_bool HF.out.symm, hB0.trans (hb.mono hB0.size)⟩

set_option maxRecDepth 100000 in
set_option maxHeartbeats 2000000 in
theorem void28 (u : Gr) (fr : Int) (a : Option Addr) (n cap : Nat) (near : List Nr) (w : World) (hnear : NearOk w (.slice a n cap) near) :
    Calls Try.prog 28 #[.agg #[.int .i64 u.1.1, .int .i64 u.1.2, .int .i64 u.2.1, .int .i64 u.2.2.1, .int .i64 u.2.2.2], .slice a n cap, .int .i64 fr] w fun e w' => e = .returned (.bool (near.any (betG fr u))) ∧ Below w.heap.size w w' := by
  have hlen := hnear.1.length
  simp only [List.length_map] at hlen
  obtain ⟨hn, hm⟩ := hlen
  unfold maxLen at hm
  have HN := Lib.hid hn
  clear hn
  go_enter Try.func28, Try.ntmps28
  go_wp2_with fail
  refine wp_name ?_
  intro W0 hW0
  have hB0 : Below w.heap.size w W0 := by rw [hW0]; exact (Below.refl _ _).alloc (Nat.le_refl _) _
  have s0 : W0.cell? ⟨w.heap.size, 0, none⟩ = some (.int .i64 u.1.1) := by rw [hW0]; go_simp
  have s1 : W0.cell? ⟨w.heap.size, 1, none⟩ = some (.int .i64 u.1.2) := by rw [hW0]; go_simp
  have s2 : W0.cell? ⟨w.heap.size, 2, none⟩ = some (.int .i64 u.2.1) := by rw [hW0]; go_simp
  have s3 : W0.cell? ⟨w.heap.size, 3, none⟩ = some (.int .i64 u.2.2.1) := by rw [hW0]; go_simp
  clear hW0
  have hnear0 := hnear.below hB0 (Nat.le_refl _)
  go_loopw [7] (fun i wr => ∃ k : Nat, i = .int .i64 k ∧ k ≤ n ∧ (near.take k).any (betG fr u) = false ∧ Below W0.heap.size W0 wr) (fun i _ => n - (intOf i).toNat)
  case atStart => exact ⟨0, rfl, by omega, by simp, Below.refl _ _⟩
  case round =>
    obtain ⟨k, rfl, hk, hx, hb⟩ := hrel
    by_cases hlt : k < n
    · obtain ⟨x, hxk⟩ : ∃ x, near[k]? = some x := ⟨near[k]'(by have := HN.out; omega), List.getElem?_eq_getElem _⟩
      obtain ⟨b, off, hix, hrg⟩ := nr_at (hnear0.1.below hb (Nat.le_refl _)) hxk
      have d1 : wr.cell? ⟨b, off + k * 31 + 1 + 11, none⟩ = some (.slice x.told.usesA x.told.usesL x.told.usesC) := hrg 12 _ rfl
      have d2 : wr.cell? ⟨b, off + k * 31 + 1, none⟩ = some (.int .i64 x.told.src) := hrg 1 _ rfl
      have hrow := ((hnear0.2 x (List.mem_of_getElem? hxk)).below hb (Nat.le_refl _)).1
      have ly := hrow.length.1
      have my := hrow.length.2
      unfold maxLen at my
      rw [List.length_map] at ly
      have LY := Lib.hid ly
      have HXK := Lib.hid hxk
      have HX := Lib.hid hx
      have HR := Lib.hid hrg
      have z := cell_block d1
      clear ly hxk hx hrg
      go_wp2_with fail
      clear z d1 d2
      obtain ⟨wo, rfl⟩ : ∃ wo : World, wo = wr := ⟨_, rfl⟩
      have hbo := hb
      go_loopw [10] (fun i wr => ∃ m : Nat, i = .int .i64 m ∧ m ≤ x.told.usesL ∧ ((x.told.us.take m).any (tellG x.told.src u) = false ∧ (m = 0 ∨ lateB fr x = true)) ∧ Below wo.heap.size wo wr) (fun i _ => x.told.usesL - (intOf i).toNat)
      case atStart => exact ⟨0, rfl, by omega, ⟨by simp, .inl rfl⟩, Below.refl _ _⟩
      case round =>
        obtain ⟨m, rfl, hm2, ⟨hx2, hml⟩, hb2⟩ := hrel
        have HX2 := Lib.hid hx2
        have HML := Lib.hid hml
        clear hx2 hml
        by_cases hltm : m < x.told.usesL
        · obtain ⟨g, hgk⟩ : ∃ g, x.told.us[m]? = some g := ⟨x.told.us[m]'(by have := LY.out; omega), List.getElem?_eq_getElem _⟩
          have HG := Lib.hid hgk
          have HR2 : Hid (wr.rangeAt b (off + k * 31) (nrV x)) := Lib.hid (fun j v hj => cell_on hb2 (HR.out j v hj))
          clear hgk
          go_wp2_with ((with_reducible refine wpList_load_row' ?_ 71 (.tmp 36) ?_ b (off + k * 31) ?_ (nrV x) _ HR2.out Try.underlying71 ?_ (info71 x) ?_); rfl; rfl; rfl; rfl)
          refine (lately33 x fr wr).mono ?_
          rintro e w3 ⟨rfl, hb3⟩
          have hB3 := hb2.trans (hb3.mono hb2.size)
          clear hb3
          cases hl : lateB fr x with
          | false =>
            have HL : Hid ((near.take (k + 1)).any (betG fr u) = false) := Lib.hid (any_step_false HXK.out HX.out (by simp [betG, hl]))
            clear hl
            go_wp2_with fail
            go_roundw
            case rel => exact ⟨k + 1, rfl, by omega, HL.out, hbo.trans (hB3.mono hbo.size)⟩
            case measure => simp [intOf]; omega
          | true =>
            have HL := Lib.hid hl
            clear hl
            obtain ⟨gb, go, gix, g0, g1, g2, g3⟩ := us_at (hrow.below hB3 (Nat.le_refl _)) HG.out
            have hB03 := hbo.trans (hB3.mono hbo.size)
            have p0 := cell_on hB03 s0
            have p1 := cell_on hB03 s1
            have p2 := cell_on hB03 s2
            have p3 := cell_on hB03 s3
            have zg := cell_block g0
            have zp := cell_block p0
            dsimp only at zg zp
            have hle := cl_eql g.1 u.1
            by_cases t1 : g.1 = u.1
            case neg =>
              have t1d : decide (g.1 = u.1) = false := decide_eq_false t1
              have HS := Lib.hid (any_step_false HG.out HX2.out (p := tellG x.told.src u) (by simp [tellG, t1]))
              clear t1
              go_wp2_with fail
              go_quiet (fail)
              go_wp2_with fail
              go_roundw
              case rel => exact ⟨m + 1, rfl, by omega, ⟨HS.out, .inr HL.out⟩, below_drewN hB3 _⟩
              case measure => simp [intOf]; omega
            have t1d : decide (g.1 = u.1) = true := decide_eq_true t1
            have T1 := Lib.hid t1
            clear t1
            cases t2 : (x.told.src != u.2.1) with
            | false =>
              have HS := Lib.hid (any_step_false HG.out HX2.out (p := tellG x.told.src u) (by simp [tellG, t2]))
              go_wp2_with fail
              go_quiet (fail)
              go_wp2_with fail
              go_roundw
              case rel => exact ⟨m + 1, rfl, by omega, ⟨HS.out, .inr HL.out⟩, below_drewN hB3 _⟩
              case measure => simp [intOf]; omega
            | true =>
              have T2 := Lib.hid t2
              cases t4 : betterB (g.2.2, x.told.src) (u.2.2.1, u.2.1) with
              | false =>
                have HS := Lib.hid (any_step_false HG.out HX2.out (p := tellG x.told.src u) (by unfold betterB at t4; simp only [tellG]; simp only at t4; rw [t4, Bool.and_false]))
                go_wp2_with fail
                go_quiet ((go_at_call 34; exact Calls.quiet_of_same (better_quiet t4)))
                go_wp2_with fail
                go_roundw
                case rel => exact ⟨m + 1, rfl, by omega, ⟨HS.out, .inr HL.out⟩, below_drewN hB3 _⟩
                case measure => simp [intOf]; omega
              | true =>
                have HF : Hid (near.any (betG fr u) = true) := Lib.hid (any_found HXK.out (by
                  have hg : x.told.us.any (tellG x.told.src u) = true := any_found HG.out (by unfold betterB at t4; simp only [tellG]; simp only at t4; rw [t4, T1.out, T2.out]; simp)
                  simp [betG, HL.out, hg]))
                go_wp2_with fail
                go_quiet ((go_at_call 34; exact Calls.quiet_of_same (better_quiet t4)))
                go_wp2_with fail
                go_ret
                exact ⟨ret_bool HF.out.symm, below_drewN (hB0.trans (hB03.mono hB0.size)) _⟩
        · have HS : Hid ((near.take (k + 1)).any (betG fr u) = false) := Lib.hid (any_step_false HXK.out HX.out (by
            have : x.told.us.any (tellG x.told.src u) = false := by rw [← any_take_all (k := m) _ (by have := LY.out; omega), HX2.out]
            simp [betG, this]))
          go_wp2_with fail
          go_roundw
          case rel => exact ⟨k + 1, rfl, by omega, HS.out, hbo.trans (hb2.mono hbo.size)⟩
          case measure => simp [intOf]; omega
    · have HF : Hid (near.any (betG fr u) = false) := Lib.hid (by rw [← any_take_all (k := k) _ (by have := HN.out; omega), hx])
      go_wp2_with fail
      go_ret
      exact ⟨ret_bool HF.out.symm, hB0.trans (hb.mono hB0.size)⟩

end Go.Proofs.Ytadiocpcpjbjpaa
