import Derived.Test.YtadiocpcpjbjpaaGa
namespace Go.Proofs.Ytadiocpcpjbjpaa
open Go.RowKit

/-- A table of asks alone. -/
def tabK (t : Tb) : Tb := { tabZ with kA := t.kA, kL := t.kL, kC := t.kC, ks := t.ks }
theorem tabK_ok {w : World} {t : Tb} (h : TbOk w t) : TbOk w (tabK t) := ⟨rows_nil _ _, rows_nil _ _, h.2.2⟩

set_option maxRecDepth 100000 in
set_option maxHeartbeats 4000000 in
theorem ClaimsGiven_walk (t : Tb) (me : Int) (a : Option Addr) (n cap : Nat) (near : List Nr) (fr : Int) (w : World) (ht : TbOk w t) (hnear : NearOk w (.slice a n cap) near) :
    Calls Try.prog 6 #[.agg #[.slice t.uA t.uL t.uC, .slice t.gA t.gL t.gC, .slice t.kA t.kL t.kC], .int .i64 me, .slice a n cap, .int .i64 fr] w fun e w' => e = .returned (.bool true) ∧ Below w.heap.size w w' := by
  have hlen := hnear.1.length
  simp only [List.length_map] at hlen
  obtain ⟨hn, hm⟩ := hlen
  unfold maxLen at hm
  have HN := Lib.hid hn
  clear hn
  go_enter Try.func6, Try.ntmps6
  go_wp2_with fail
  refine (head_any _).mono ?_
  rintro e w1 ⟨rfl, hb1⟩
  obtain ⟨hc1, _⟩ := bcell hb1
  have c0 : w1.cell? ⟨w.heap.size, 0, none⟩ = some (.slice t.uA t.uL t.uC) := by rw [hc1 _ _ (by simp)]; go_simp
  have c1 : w1.cell? ⟨w.heap.size, 1, none⟩ = some (.slice t.gA t.gL t.gC) := by rw [hc1 _ _ (by simp)]; go_simp
  have c2 : w1.cell? ⟨w.heap.size, 2, none⟩ = some (.slice t.kA t.kL t.kC) := by rw [hc1 _ _ (by simp)]; go_simp
  have hB1 : Below w.heap.size w w1 := ((Below.refl _ w).alloc (Nat.le_refl _) _).trans (hb1.mono (by simp))
  have z1 : w.heap.size < w1.heap.size := cell_block c0
  clear hb1 hc1
  by_cases hlo : fr < -1152921504606846976
  · have hd : decide (fr < -1152921504606846976) = true := decide_eq_true hlo
    clear hlo
    go_wp2_with fail
    go_ret
    exact ⟨rfl, hB1⟩
  have hd : decide (fr < -1152921504606846976) = false := decide_eq_false hlo
  clear hlo
  go_wp2_with fail
  clear hd
  refine (few_any t w1).mono ?_
  rintro e w2 ⟨rfl, hb2⟩
  have hB2 := hB1.trans (hb2.mono hB1.size)
  obtain ⟨hc2, _⟩ := bcell hb2
  have c0' := (hc2 w.heap.size 0 z1).trans c0
  have c1' := (hc2 w.heap.size 1 z1).trans c1
  have c2' := (hc2 w.heap.size 2 z1).trans c2
  clear hb2 hc2 hB1 c0 c1 c2
  by_cases hfew : t.uL ≤ 40 ∧ t.gL ≤ 40 ∧ t.kL ≤ 40
  case neg =>
    have hd : decide (t.uL ≤ 40 ∧ t.gL ≤ 40 ∧ t.kL ≤ 40) = false := decide_eq_false hfew
    simp only [hd]
    clear hd hfew
    go_wp2_with fail
    go_ret
    exact ⟨rfl, hB2⟩
  have hd : decide (t.uL ≤ 40 ∧ t.gL ≤ 40 ∧ t.kL ≤ 40) = true := decide_eq_true hfew
  simp only [hd]
  clear hd
  go_wp2_with fail
  refine (fewNear_any a n cap near w2 (hnear.below hB2 (Nat.le_refl _))).mono ?_
  rintro e w3 ⟨rfl, hb3⟩
  have hB3 := hB2.trans (hb3.mono hB2.size)
  have z2 : w.heap.size < w2.heap.size := cell_block c0'
  obtain ⟨hc3, _⟩ := bcell hb3
  have c0 := (hc3 w.heap.size 0 z2).trans c0'
  have c1 := (hc3 w.heap.size 1 z2).trans c1'
  have c2 := (hc3 w.heap.size 2 z2).trans c2'
  clear hb3 hc3 hB2 c0' c1' c2' z1 z2
  cases hfn : (near.all fewB && decide (n ≤ 70)) with
  | false =>
    clear hfn
    go_wp2_with fail
    go_ret
    exact ⟨rfl, hB3⟩
  | true =>
    clear hfn
    have hnear3 := hnear.below hB3 (Nat.le_refl _)
    have z3 : w.heap.size < w3.heap.size := cell_block c0
    have hu40 := hfew.1
    have hg40 := hfew.2.1
    have ht3 := ht.below hB3 (Nat.le_refl _)
    go_wp2_with fail
    refine (yield_any t me fr a n cap near w3 hnear3.1.length.2 (by simpa using hnear3.1.length.1) ht3 hnear3 (by omega) (by omega)).mono ?_
    rintro e w4 ⟨t1, rfl, ok1, u1, g1, k1, hb4⟩
    have d0 := cell_on hb4 c0
    have d1 := cell_on hb4 c1
    have d2 := cell_on hb4 c2
    have hB4 := hB3.trans (hb4.mono hB3.size)
    have U1 := Lib.hid u1
    have G1 := Lib.hid g1
    have K1 := Lib.hid k1
    clear u1 g1 k1 hb4 hB3 c0 c1 c2 hnear3 ht3 hfew z3
    go_upto_region 5 with fail
    refine wp_name ?_
    intro W5 hW5
    have hB5w : Below w4.heap.size w4 W5 := by rw [hW5]; exact ((Below.refl _ _).alloc (Nat.le_refl _) _)
    have q0 : W5.cell? ⟨w4.heap.size, 0, none⟩ = some (.slice t1.uA t1.uL t1.uC) := by rw [hW5]; go_simp
    have q1 : W5.cell? ⟨w4.heap.size, 1, none⟩ = some (.slice t1.gA t1.gL t1.gC) := by rw [hW5]; go_simp
    have q2 : W5.cell? ⟨w4.heap.size, 2, none⟩ = some (.slice t1.kA t1.kL t1.kC) := by rw [hW5]; go_simp
    clear hW5
    have z4 : w.heap.size < w4.heap.size := cell_block d0
    obtain ⟨b1, hb1⟩ : ∃ b1, w4.heap.size = b1 := ⟨_, rfl⟩
    have hTT : TT w.heap.size t b1 t1 W5 W5 := by rw [← hb1]; exact ⟨cell_on hB5w d0, cell_on hB5w d1, cell_on hB5w d2, q0, q1, q2, Below.refl _ _⟩
    have hB5 := hB4.trans (hB5w.mono hB4.size)
    have ok5 := ok1.below hB5w (Nat.le_refl _)
    have hnear5 := hnear.below hB5 (Nat.le_refl _)
    have ht5 := ht.below hB5 (Nat.le_refl _)
    rw [hb1] at z4 ⊢
    clear hb1 hB5w d0 d1 d2 hB4 ok1 q0 q1 q2
    have LU := Lib.hid ht5.1.length.1
    have LG := Lib.hid ht5.2.1.length.1
    have lu := ok5.1.length.1
    have lg := ok5.2.1.length.1
    rw [List.length_map] at lu lg
    have LU1 := Lib.hid lu
    have LG1 := Lib.hid lg
    clear lu lg
    obtain ⟨hfacts, hb⟩ : TT w.heap.size t b1 t1 W5 W5 ∧ Below W5.heap.size W5 W5 := ⟨hTT, Below.refl _ _⟩
    clear hb hfacts
    go_wp2_with fail
    go_loopw [11, 52] (fun kv i wr => ∃ i0 : Nat, i = .int .i64 i0 ∧ i0 ≤ t.uL ∧ kv = .int .i64 (((t.us.take i0).filter (keepU fr me near)).length : Nat) ∧ Below W5.heap.size W5 wr) (fun _ i _ => t.uL - (intOf i).toNat)
    case atStart => exact ⟨0, rfl, by omega, by simp, Below.refl _ _⟩
    case round =>
      obtain ⟨i0, rfl, hi0, rfl, hb⟩ := hrel
      have e0 := cell_on hb hTT.1
      have e1 := cell_on hb hTT.2.1
      have e2 := cell_on hb hTT.2.2.1
      have e3 := cell_on hb hTT.2.2.2.1
      have e4 := cell_on hb hTT.2.2.2.2.1
      have e5 := cell_on hb hTT.2.2.2.2.2.1
      obtain ⟨kk, hkk⟩ : ∃ kk, ((t.us.take i0).filter (keepU fr me near)).length = kk := ⟨_, rfl⟩
      rw [hkk]
      have HKK := Lib.hid hkk
      clear hkk
      have zt : w.heap.size < wr.heap.size := cell_block e0
      have zb1 : b1 < wr.heap.size := cell_block e3
      by_cases hlt : i0 < t.uL
      · obtain ⟨x, hxk⟩ : ∃ x, t.us[i0]? = some x := ⟨t.us[i0]'(by have := LU.out; simp at this; omega), List.getElem?_eq_getElem _⟩
        obtain ⟨bb, off, hix, d0, d1, d2, d3⟩ := us_at (ht5.1.below hb (Nat.le_refl _)) hxk
        have HXK := Lib.hid hxk
        clear hxk
        go_wp2_with fail
        refine wp_name ?_
        intro W1 hW1
        have hB1 : Below wr.heap.size wr W1 := by rw [hW1]; exact (Below.refl _ _).alloc (Nat.le_refl _) _
        have s0 : W1.cell? ⟨wr.heap.size, 0, none⟩ = some (.int .i64 x.1.1) := by rw [hW1]; go_simp
        have s1 : W1.cell? ⟨wr.heap.size, 1, none⟩ = some (.int .i64 x.1.2) := by rw [hW1]; go_simp
        have s2 : W1.cell? ⟨wr.heap.size, 2, none⟩ = some (.int .i64 x.2.1) := by rw [hW1]; go_simp
        have s3 : W1.cell? ⟨wr.heap.size, 3, none⟩ = some (.int .i64 x.2.2) := by rw [hW1]; go_simp
        obtain ⟨bu, hbu⟩ : ∃ bu, wr.heap.size = bu := ⟨_, rfl⟩
        clear hW1 hix d0 d1 d2 d3 e0 e1 e2 e3 e4 e5 zt
        have hbW1 := hb.trans (hB1.mono hb.size)
        rw [hbu] at s0 s1 s2 s3 zb1 ⊢
        clear hB1
        have zuW : bu < W1.heap.size := cell_block s0
        obtain ⟨wo, rfl⟩ : ∃ wo : World, wo = wr := ⟨_, rfl⟩
        have hnear1 := hnear5.below hbW1 (Nat.le_refl _)
        go_loopw [14, 58] (fun bv i wr => ∃ j : Nat, i = .int .i64 j ∧ j ≤ n ∧ bv = .bool ((near.take j).any (betU fr me x)) ∧ Below W1.heap.size W1 wr) (fun _ i _ => n - (intOf i).toNat)
        case atStart => exact ⟨0, rfl, by omega, by simp, Below.refl _ _⟩
        case round =>
          obtain ⟨j, rfl, hj, rfl, hb2⟩ := hrel
          obtain ⟨B, hBJ⟩ : ∃ B, (near.take j).any (betU fr me x) = B := ⟨_, rfl⟩
          rw [hBJ]
          have HBJ := Lib.hid hBJ
          clear hBJ
          have su0 := cell_on hb2 s0
          have su1 := cell_on hb2 s1
          have su2 := cell_on hb2 s2
          have su3 := cell_on hb2 s3
          by_cases hltj : j < n
          · obtain ⟨y, hyk⟩ : ∃ y, near[j]? = some y := ⟨near[j]'(by have := HN.out; omega), List.getElem?_eq_getElem _⟩
            obtain ⟨nb, noff, nix, hrg⟩ := nr_at (hnear1.1.below hb2 (Nat.le_refl _)) hyk
            obtain ⟨p0, p1⟩ := nr_new wr y
            have pf := p1 12 _ rfl
            have ps := p1 0 _ rfl
            have HR := Lib.hid hrg
            have HYK := Lib.hid hyk
            have hbok := (hnear1.2 y (List.mem_of_getElem? hyk)).below hb2 (Nat.le_refl _)
            have hrow := hbok.2
            have ly := hrow.length.1
            have my := hrow.length.2
            unfold maxLen at my
            rw [List.length_map] at ly
            have LY := Lib.hid ly
            clear hrg hyk p1 hbok ly
            go_wp2_with (first
              | ((with_reducible refine wpList_load_row' ?_ 71 (.tmp 60) ?_ nb (noff + j * 31) ?_ (nrV y) _ HR.out Try.underlying71 ?_ (info71 y) ?_); rfl; rfl; rfl; rfl)
              | ((with_reducible refine wpList_store_new ?_ 71 (.tmp 16) (.tmp 61) ?_ wr 71 (nrV y) ?_ ?_ ?_ (nrV_one y) (info71 y) ?_); rfl; rfl; exact ⟨_, rfl, rfl⟩; rfl; rfl))
            refine wp_name ?_
            intro W2 hW2
            have hB2 : Below wr.heap.size wr W2 := by rw [hW2]; exact (Below.refl _ _).alloc (Nat.le_refl _) _
            have sm0 : W2.cell? ⟨wr.heap.size, 0, none⟩ = some (.int .i64 y.frame) := by rw [hW2]; exact p0
            have sv0 := cell_on hB2 su0
            have sv1 := cell_on hB2 su1
            have sv2 := cell_on hB2 su2
            have sv3 := cell_on hB2 su3
            have hrow2 := hrow.below hB2 (Nat.le_refl _)
            have hB12 := hb2.trans (hB2.mono hb2.size)
            clear hW2 nix su0 su1 su2 su3 p0 pf ps hb2 hrow hB2
            obtain ⟨bn, hbn⟩ : ∃ bn, wr.heap.size = bn := ⟨_, rfl⟩
            rw [hbn] at sm0 ⊢
            clear hbn
            have znW : bn < W2.heap.size := cell_block sm0
            have zuW2 : bu < W2.heap.size := cell_block sv0
            obtain ⟨wo2, rfl⟩ : ∃ wo2 : World, wo2 = wr := ⟨_, rfl⟩
            go_loopw [14, 66] (fun bv i wr => ∃ m : Nat, i = .int .i64 m ∧ m ≤ y.told.grantsL ∧ bv = .bool (B || (lateB fr y && (y.told.gs.take m).any (tellU fr me x))) ∧ Below W2.heap.size W2 wr) (fun _ i _ => y.told.grantsL - (intOf i).toNat)
            case atStart => exact ⟨0, rfl, by omega, by simp, Below.refl _ _⟩
            case round =>
              obtain ⟨m, rfl, hm2, rfl, hb3⟩ := hrel
              by_cases hltm : m < y.told.grantsL
              · obtain ⟨g, hgk⟩ : ∃ g, y.told.gs[m]? = some g := ⟨y.told.gs[m]'(by have := LY.out; omega), List.getElem?_eq_getElem _⟩
                obtain ⟨gb, go, gix, g0, g1, g2, g3, g4⟩ := gr_at (hrow2.below hb3 (Nat.le_refl _)) hgk
                have HV := Lib.hid (inner_succ B (lateB fr y) (tellU fr me x) hgk)
                obtain ⟨bv, hbv⟩ : ∃ bv, (B || (lateB fr y && (y.told.gs.take m).any (tellU fr me x))) = bv := ⟨_, rfl⟩
                rw [hbv]
                have HBV := Lib.hid hbv
                have zu : bu < wr.heap.size := by have := hb3.size; omega
                have zn : bn < wr.heap.size := by have := hb3.size; omega
                have su0 := cell_on hb3 sv0
                have su1 := cell_on hb3 sv1
                have su2 := cell_on hb3 sv2
                have su3 := cell_on hb3 sv3
                have sn0 := cell_on hb3 sm0
                clear hgk hbv
                rw [HBV.out] at HV
                cases bv with
                | true =>
                  by_cases h1 : y.frame = fr
                  · have h1' : (y.frame == fr) = true := by simp [h1]
                    clear h1
                    as_aux_lemma =>
                      go_wp2_with fail
                      go_roundw
                      case rel => exact ⟨m + 1, rfl, by omega, by rw [HV.out]; simp [], hb3.alloc hb3.size _⟩
                      case measure => simp [intOf]; omega
                  · have h1' : (y.frame == fr) = false := by simp [h1]
                    cases h2' : (y.frame == wrap64 (fr - 1)) with
                    | true =>
                      clear h1
                      as_aux_lemma =>
                        go_wp2_with fail
                        go_roundw
                        case rel => exact ⟨m + 1, rfl, by omega, by rw [HV.out]; simp [], hb3.alloc hb3.size _⟩
                        case measure => simp [intOf]; omega
                    | false =>
                      clear h1
                      as_aux_lemma =>
                        go_wp2_with fail
                        go_roundw
                        case rel => exact ⟨m + 1, rfl, by omega, by rw [HV.out]; simp [], hb3.alloc hb3.size _⟩
                        case measure => simp [intOf]; omega
                | false =>
                  by_cases h1 : y.frame = fr
                  · have h1' : (y.frame == fr) = true := by simp [h1]
                    have HL : Hid (lateB fr y = true) := Lib.hid (by simp [lateB, h1])
                    clear h1
                    have hle := cl_eql g.1 x.1
                    by_cases t1 : g.1 = x.1
                    case neg =>
                      have t1d : decide (g.1 = x.1) = false := decide_eq_false t1
                      have T1 := Lib.hid t1
                      clear t1
                      as_aux_lemma =>
                        go_wp2_with fail
                        go_roundw
                        case rel => exact ⟨m + 1, rfl, by omega, by rw [HV.out]; simp [HL.out, tellU, T1.out], hb3.alloc hb3.size _⟩
                        case measure => simp [intOf]; omega
                    have t1d : decide (g.1 = x.1) = true := decide_eq_true t1
                    have T1 := Lib.hid t1
                    clear t1
                    cases t2 : (g.2.1 != me) with
                    | false =>
                      have T2 := Lib.hid t2
                      as_aux_lemma =>
                        go_wp2_with fail
                        go_roundw
                        case rel => exact ⟨m + 1, rfl, by omega, by rw [HV.out]; simp [HL.out, tellU, T1.out, T2.out], hb3.alloc hb3.size _⟩
                        case measure => simp [intOf]; omega
                    | true =>
                      have T2 := Lib.hid t2
                      by_cases t3 : fr ≤ g.2.2.2
                      case neg =>
                        have t3d : decide (fr ≤ g.2.2.2) = false := decide_eq_false t3
                        have T3 := Lib.hid t3
                        clear t3
                        as_aux_lemma =>
                          go_wp2_with fail
                          go_roundw
                          case rel => exact ⟨m + 1, rfl, by omega, by rw [HV.out]; simp [HL.out, tellU, T1.out, T2.out, T3.out], hb3.alloc hb3.size _⟩
                          case measure => simp [intOf]; omega
                      have t3d : decide (fr ≤ g.2.2.2) = true := decide_eq_true t3
                      have T3 := Lib.hid t3
                      clear t3
                      by_cases t4 : g.2.2.1 < x.2.2
                      case pos =>
                        have t4d : decide (g.2.2.1 < x.2.2) = true := decide_eq_true t4
                        have T4 := Lib.hid t4
                        clear t4
                        as_aux_lemma =>
                          go_wp2_with fail
                          go_roundw
                          case rel => exact ⟨m + 1, rfl, by omega, by rw [HV.out]; simp [HL.out, tellU, T1.out, T2.out, T3.out, T4.out], hb3.alloc hb3.size _⟩
                          case measure => simp [intOf]; omega
                      have t4d : decide (g.2.2.1 < x.2.2) = false := decide_eq_false t4
                      have T4 := Lib.hid t4
                      clear t4
                      cases t5 : (g.2.2.1 == x.2.2) with
                      | false =>
                        have T5 := Lib.hid t5
                        as_aux_lemma =>
                          go_wp2_with fail
                          go_roundw
                          case rel => exact ⟨m + 1, rfl, by omega, by rw [HV.out]; simp [HL.out, tellU, T1.out, T2.out, T3.out, T4.out, T5.out], hb3.alloc hb3.size _⟩
                          case measure => simp [intOf]; omega
                      | true =>
                        have T5 := Lib.hid t5
                        by_cases t6 : g.2.1 < me
                        case pos =>
                          have t6d : decide (g.2.1 < me) = true := decide_eq_true t6
                          have T6 := Lib.hid t6
                          clear t6
                          as_aux_lemma =>
                            go_wp2_with fail
                            go_roundw
                            case rel => exact ⟨m + 1, rfl, by omega, by rw [HV.out]; simp [HL.out, tellU, T1.out, T2.out, T3.out, T4.out, T5.out, T6.out], hb3.alloc hb3.size _⟩
                            case measure => simp [intOf]; omega
                        have t6d : decide (g.2.1 < me) = false := decide_eq_false t6
                        have T6 := Lib.hid t6
                        clear t6
                        as_aux_lemma =>
                          go_wp2_with fail
                          go_roundw
                          case rel => exact ⟨m + 1, rfl, by omega, by rw [HV.out]; simp [HL.out, tellU, T1.out, T2.out, T3.out, T4.out, T5.out, T6.out], hb3.alloc hb3.size _⟩
                          case measure => simp [intOf]; omega
                  · have h1' : (y.frame == fr) = false := by simp [h1]
                    cases h2' : (y.frame == wrap64 (fr - 1)) with
                    | true =>
                      have HL : Hid (lateB fr y = true) := Lib.hid (by simp [lateB, h2'])
                      clear h1
                      have hle := cl_eql g.1 x.1
                      by_cases t1 : g.1 = x.1
                      case neg =>
                        have t1d : decide (g.1 = x.1) = false := decide_eq_false t1
                        have T1 := Lib.hid t1
                        clear t1
                        as_aux_lemma =>
                          go_wp2_with fail
                          go_roundw
                          case rel => exact ⟨m + 1, rfl, by omega, by rw [HV.out]; simp [HL.out, tellU, T1.out], hb3.alloc hb3.size _⟩
                          case measure => simp [intOf]; omega
                      have t1d : decide (g.1 = x.1) = true := decide_eq_true t1
                      have T1 := Lib.hid t1
                      clear t1
                      cases t2 : (g.2.1 != me) with
                      | false =>
                        have T2 := Lib.hid t2
                        as_aux_lemma =>
                          go_wp2_with fail
                          go_roundw
                          case rel => exact ⟨m + 1, rfl, by omega, by rw [HV.out]; simp [HL.out, tellU, T1.out, T2.out], hb3.alloc hb3.size _⟩
                          case measure => simp [intOf]; omega
                      | true =>
                        have T2 := Lib.hid t2
                        by_cases t3 : fr ≤ g.2.2.2
                        case neg =>
                          have t3d : decide (fr ≤ g.2.2.2) = false := decide_eq_false t3
                          have T3 := Lib.hid t3
                          clear t3
                          as_aux_lemma =>
                            go_wp2_with fail
                            go_roundw
                            case rel => exact ⟨m + 1, rfl, by omega, by rw [HV.out]; simp [HL.out, tellU, T1.out, T2.out, T3.out], hb3.alloc hb3.size _⟩
                            case measure => simp [intOf]; omega
                        have t3d : decide (fr ≤ g.2.2.2) = true := decide_eq_true t3
                        have T3 := Lib.hid t3
                        clear t3
                        by_cases t4 : g.2.2.1 < x.2.2
                        case pos =>
                          have t4d : decide (g.2.2.1 < x.2.2) = true := decide_eq_true t4
                          have T4 := Lib.hid t4
                          clear t4
                          as_aux_lemma =>
                            go_wp2_with fail
                            go_roundw
                            case rel => exact ⟨m + 1, rfl, by omega, by rw [HV.out]; simp [HL.out, tellU, T1.out, T2.out, T3.out, T4.out], hb3.alloc hb3.size _⟩
                            case measure => simp [intOf]; omega
                        have t4d : decide (g.2.2.1 < x.2.2) = false := decide_eq_false t4
                        have T4 := Lib.hid t4
                        clear t4
                        cases t5 : (g.2.2.1 == x.2.2) with
                        | false =>
                          have T5 := Lib.hid t5
                          as_aux_lemma =>
                            go_wp2_with fail
                            go_roundw
                            case rel => exact ⟨m + 1, rfl, by omega, by rw [HV.out]; simp [HL.out, tellU, T1.out, T2.out, T3.out, T4.out, T5.out], hb3.alloc hb3.size _⟩
                            case measure => simp [intOf]; omega
                        | true =>
                          have T5 := Lib.hid t5
                          by_cases t6 : g.2.1 < me
                          case pos =>
                            have t6d : decide (g.2.1 < me) = true := decide_eq_true t6
                            have T6 := Lib.hid t6
                            clear t6
                            as_aux_lemma =>
                              go_wp2_with fail
                              go_roundw
                              case rel => exact ⟨m + 1, rfl, by omega, by rw [HV.out]; simp [HL.out, tellU, T1.out, T2.out, T3.out, T4.out, T5.out, T6.out], hb3.alloc hb3.size _⟩
                              case measure => simp [intOf]; omega
                          have t6d : decide (g.2.1 < me) = false := decide_eq_false t6
                          have T6 := Lib.hid t6
                          clear t6
                          as_aux_lemma =>
                            go_wp2_with fail
                            go_roundw
                            case rel => exact ⟨m + 1, rfl, by omega, by rw [HV.out]; simp [HL.out, tellU, T1.out, T2.out, T3.out, T4.out, T5.out, T6.out], hb3.alloc hb3.size _⟩
                            case measure => simp [intOf]; omega
                    | false =>
                      have HL : Hid (lateB fr y = false) := Lib.hid (by simp [lateB, h2', h1])
                      clear h1
                      as_aux_lemma =>
                        go_wp2_with fail
                        go_roundw
                        case rel => exact ⟨m + 1, rfl, by omega, by rw [HV.out]; simp [HL.out], hb3.alloc hb3.size _⟩
                        case measure => simp [intOf]; omega
              · have HE : Hid ((B || (lateB fr y && (y.told.gs.take m).any (tellU fr me x))) = (near.take (j + 1)).any (betU fr me x)) := Lib.hid (by
                  rw [any_take_succ _ HYK.out, HBJ.out, any_take_all _ (by have := LY.out; omega)]
                  rfl)
                go_wp2_with fail
                go_roundw
                case rel => exact ⟨j + 1, rfl, by omega, by rw [HE.out], hB12.trans (hb3.mono hB12.size)⟩
                case measure => simp [intOf]; omega
          · have HBE : Hid (B = !keepU fr me near x) := Lib.hid (by
              rw [← betU_keep, ← HBJ.out, any_take_all _ (by have := HN.out; omega)])
            have hbW := hbW1.trans (hb2.mono hbW1.size)
            have e0 := cell_on hbW hTT.1
            have e1 := cell_on hbW hTT.2.1
            have e2 := cell_on hbW hTT.2.2.1
            have e3 := cell_on hbW hTT.2.2.2.1
            have e4 := cell_on hbW hTT.2.2.2.2.1
            have e5 := cell_on hbW hTT.2.2.2.2.2.1
            have zt : w.heap.size < wr.heap.size := cell_block e0
            have zb2 : b1 < wr.heap.size := cell_block e3
            have zu2 : bu < wr.heap.size := cell_block su0
            cases hkx : keepU fr me near x with
            | false =>
              have hB1 : B = true := by rw [HBE.out, hkx]; rfl
              subst hB1
              have HF := Lib.hid (filter_take_skip HXK.out hkx)
              clear hkx
              go_wp2_with fail
              go_roundw
              case rel => exact ⟨i0 + 1, rfl, by omega, by rw [HF.out, HKK.out], hbW⟩
              case measure => simp [intOf]; omega
            | true =>
              have hB1 : B = false := by rw [HBE.out, hkx]; rfl
              subst hB1
              have HF := Lib.hid (filter_take_keep HXK.out hkx)
              have hat := filter_at HXK.out hkx
              rw [← U1.out, HKK.out] at hat
              obtain ⟨ob, oo, oix, o0, o1, o2, o3⟩ := us_at (ok5.1.below hbW (Nat.le_refl _)) hat
              have hkl : kk < t1.us.length := (List.getElem?_eq_some_iff.1 hat).1
              have hkl' : decide ((t1.uL : Int) ≤ (kk : Int)) = false := decide_eq_false (by have := LU1.out; omega)
              have hklN : decide (t1.uL ≤ kk) = false := decide_eq_false (by have := LU1.out; omega)
              have hne := us_neq x x
              have hxx : decide (x = x) = true := decide_eq_true rfl
              have hk40 : kk ≤ 40 := by
                have h := List.length_filter_le (keepU fr me near) (t.us.take i0)
                rw [HKK.out, List.length_take] at h
                omega
              have zo : ob < wr.heap.size := cell_block o0
              clear hkx hat
              go_wp2_with fail
              go_quiet (fail)
              go_wp2_with fail
              go_roundw
              case rel => exact ⟨i0 + 1, rfl, by omega, by rw [HF.out, List.length_append, HKK.out]; rfl, below_drewN hbW _⟩
              case measure => simp [intOf]; omega
      · have HE1 : Hid (kk = t1.uL) := Lib.hid (by
          rw [← HKK.out, List.take_of_length_le (by have := LU.out; simp at this; omega), ← U1.out, LU1.out])
        rw [HE1.out]
        clear HE1 HKK
        go_wp2_with fail
        obtain ⟨wz, rfl⟩ : ∃ wz : World, wz = wr := ⟨_, rfl⟩
        clear e0 e1 e2 e3 e4 e5 zt zb1
        go_loopw [20, 147] (fun kv i wr => ∃ i0 : Nat, i = .int .i64 i0 ∧ i0 ≤ t.gL ∧ kv = .int .i64 (((t.gs.take i0).filter (keepG fr near)).length : Nat) ∧ Below W5.heap.size W5 wr) (fun _ i _ => t.gL - (intOf i).toNat)
        case atStart => exact ⟨0, rfl, by omega, by simp, hb⟩
        case round =>
          obtain ⟨i0, rfl, hi0, rfl, hb⟩ := hrel
          have e0 := cell_on hb hTT.1
          have e1 := cell_on hb hTT.2.1
          have e2 := cell_on hb hTT.2.2.1
          have e3 := cell_on hb hTT.2.2.2.1
          have e4 := cell_on hb hTT.2.2.2.2.1
          have e5 := cell_on hb hTT.2.2.2.2.2.1
          obtain ⟨kk, hkk⟩ : ∃ kk, ((t.gs.take i0).filter (keepG fr near)).length = kk := ⟨_, rfl⟩
          rw [hkk]
          have HKK := Lib.hid hkk
          clear hkk
          have zt : w.heap.size < wr.heap.size := cell_block e0
          have zb1 : b1 < wr.heap.size := cell_block e3
          by_cases hlt : i0 < t.gL
          · obtain ⟨x, hxk⟩ : ∃ x, t.gs[i0]? = some x := ⟨t.gs[i0]'(by have := LG.out; simp at this; omega), List.getElem?_eq_getElem _⟩
            obtain ⟨bb, off, hix, d0, d1, d2, d3, d4⟩ := gr_at (ht5.2.1.below hb (Nat.le_refl _)) hxk
            have HXK := Lib.hid hxk
            clear hxk
            go_wp2_with fail
            refine wp_name ?_
            intro W1 hW1
            have hB1 : Below wr.heap.size wr W1 := by rw [hW1]; exact (Below.refl _ _).alloc (Nat.le_refl _) _
            have s0 : W1.cell? ⟨wr.heap.size, 0, none⟩ = some (.int .i64 x.1.1) := by rw [hW1]; go_simp
            have s1 : W1.cell? ⟨wr.heap.size, 1, none⟩ = some (.int .i64 x.1.2) := by rw [hW1]; go_simp
            have s2 : W1.cell? ⟨wr.heap.size, 2, none⟩ = some (.int .i64 x.2.1) := by rw [hW1]; go_simp
            have s3 : W1.cell? ⟨wr.heap.size, 3, none⟩ = some (.int .i64 x.2.2.1) := by rw [hW1]; go_simp
            have s4 : W1.cell? ⟨wr.heap.size, 4, none⟩ = some (.int .i64 x.2.2.2) := by rw [hW1]; go_simp
            obtain ⟨bu, hbu⟩ : ∃ bu, wr.heap.size = bu := ⟨_, rfl⟩
            clear hW1 hix d0 d1 d2 d3 d4 e0 e1 e2 e3 e4 e5 zt
            have hbW1 := hb.trans (hB1.mono hb.size)
            rw [hbu] at s0 s1 s2 s3 s4 zb1 ⊢
            clear hB1
            have zuW : bu < W1.heap.size := cell_block s0
            obtain ⟨wo, rfl⟩ : ∃ wo : World, wo = wr := ⟨_, rfl⟩
            have hnear1 := hnear5.below hbW1 (Nat.le_refl _)
            go_loopw [23, 153] (fun bv i wr => ∃ j : Nat, i = .int .i64 j ∧ j ≤ n ∧ bv = .bool ((near.take j).any (betG fr x)) ∧ Below W1.heap.size W1 wr) (fun _ i _ => n - (intOf i).toNat)
            case atStart => exact ⟨0, rfl, by omega, by simp, Below.refl _ _⟩
            case round =>
              obtain ⟨j, rfl, hj, rfl, hb2⟩ := hrel
              obtain ⟨B, hBJ⟩ : ∃ B, (near.take j).any (betG fr x) = B := ⟨_, rfl⟩
              rw [hBJ]
              have HBJ := Lib.hid hBJ
              clear hBJ
              have su0 := cell_on hb2 s0
              have su1 := cell_on hb2 s1
              have su2 := cell_on hb2 s2
              have su3 := cell_on hb2 s3
              have su4 := cell_on hb2 s4
              by_cases hltj : j < n
              · obtain ⟨y, hyk⟩ : ∃ y, near[j]? = some y := ⟨near[j]'(by have := HN.out; omega), List.getElem?_eq_getElem _⟩
                obtain ⟨nb, noff, nix, hrg⟩ := nr_at (hnear1.1.below hb2 (Nat.le_refl _)) hyk
                obtain ⟨p0, p1⟩ := nr_new wr y
                have pf := p1 11 _ rfl
                have ps := p1 0 _ rfl
                have HR := Lib.hid hrg
                have HYK := Lib.hid hyk
                have hbok := (hnear1.2 y (List.mem_of_getElem? hyk)).below hb2 (Nat.le_refl _)
                have hrow := hbok.1
                have ly := hrow.length.1
                have my := hrow.length.2
                unfold maxLen at my
                rw [List.length_map] at ly
                have LY := Lib.hid ly
                clear hrg hyk p1 hbok ly
                go_wp2_with (first
                  | ((with_reducible refine wpList_load_row' ?_ 71 (.tmp 155) ?_ nb (noff + j * 31) ?_ (nrV y) _ HR.out Try.underlying71 ?_ (info71 y) ?_); rfl; rfl; rfl; rfl)
                  | ((with_reducible refine wpList_store_new ?_ 71 (.tmp 25) (.tmp 156) ?_ wr 71 (nrV y) ?_ ?_ ?_ (nrV_one y) (info71 y) ?_); rfl; rfl; exact ⟨_, rfl, rfl⟩; rfl; rfl))
                refine wp_name ?_
                intro W2 hW2
                have hB2 : Below wr.heap.size wr W2 := by rw [hW2]; exact (Below.refl _ _).alloc (Nat.le_refl _) _
                have sm0 : W2.cell? ⟨wr.heap.size, 0, none⟩ = some (.int .i64 y.frame) := by rw [hW2]; exact p0
                have sm1 : W2.cell? ⟨wr.heap.size, 1, none⟩ = some (.int .i64 y.told.src) := by rw [hW2]; exact ps
                have sv0 := cell_on hB2 su0
                have sv1 := cell_on hB2 su1
                have sv2 := cell_on hB2 su2
                have sv3 := cell_on hB2 su3
                have sv4 := cell_on hB2 su4
                have hrow2 := hrow.below hB2 (Nat.le_refl _)
                have hB12 := hb2.trans (hB2.mono hb2.size)
                clear hW2 nix su0 su1 su2 su3 su4 p0 pf ps hb2 hrow hB2
                obtain ⟨bn, hbn⟩ : ∃ bn, wr.heap.size = bn := ⟨_, rfl⟩
                rw [hbn] at sm0 sm1 ⊢
                clear hbn
                have znW : bn < W2.heap.size := cell_block sm0
                have zuW2 : bu < W2.heap.size := cell_block sv0
                obtain ⟨wo2, rfl⟩ : ∃ wo2 : World, wo2 = wr := ⟨_, rfl⟩
                go_loopw [23, 161] (fun bv i wr => ∃ m : Nat, i = .int .i64 m ∧ m ≤ y.told.usesL ∧ bv = .bool (B || (lateB fr y && (y.told.us.take m).any (tellG y.told.src x))) ∧ Below W2.heap.size W2 wr) (fun _ i _ => y.told.usesL - (intOf i).toNat)
                case atStart => exact ⟨0, rfl, by omega, by simp, Below.refl _ _⟩
                case round =>
                  obtain ⟨m, rfl, hm2, rfl, hb3⟩ := hrel
                  by_cases hltm : m < y.told.usesL
                  · obtain ⟨g, hgk⟩ : ∃ g, y.told.us[m]? = some g := ⟨y.told.us[m]'(by have := LY.out; omega), List.getElem?_eq_getElem _⟩
                    obtain ⟨gb, go, gix, g0, g1, g2, g3⟩ := us_at (hrow2.below hb3 (Nat.le_refl _)) hgk
                    have HV := Lib.hid (inner_succ B (lateB fr y) (tellG y.told.src x) hgk)
                    obtain ⟨bv, hbv⟩ : ∃ bv, (B || (lateB fr y && (y.told.us.take m).any (tellG y.told.src x))) = bv := ⟨_, rfl⟩
                    rw [hbv]
                    have HBV := Lib.hid hbv
                    have zu : bu < wr.heap.size := by have := hb3.size; omega
                    have zn : bn < wr.heap.size := by have := hb3.size; omega
                    have su0 := cell_on hb3 sv0
                    have su1 := cell_on hb3 sv1
                    have su2 := cell_on hb3 sv2
                    have su3 := cell_on hb3 sv3
                    have su4 := cell_on hb3 sv4
                    have sn0 := cell_on hb3 sm0
                    have sn1 := cell_on hb3 sm1
                    clear hgk hbv
                    rw [HBV.out] at HV
                    cases bv with
                    | true =>
                      by_cases h1 : y.frame = fr
                      · have h1' : (y.frame == fr) = true := by simp [h1]
                        clear h1
                        as_aux_lemma =>
                          go_wp2_with fail
                          go_roundw
                          case rel => exact ⟨m + 1, rfl, by omega, by rw [HV.out]; simp [], hb3.alloc hb3.size _⟩
                          case measure => simp [intOf]; omega
                      · have h1' : (y.frame == fr) = false := by simp [h1]
                        cases h2' : (y.frame == wrap64 (fr - 1)) with
                        | true =>
                          clear h1
                          as_aux_lemma =>
                            go_wp2_with fail
                            go_roundw
                            case rel => exact ⟨m + 1, rfl, by omega, by rw [HV.out]; simp [], hb3.alloc hb3.size _⟩
                            case measure => simp [intOf]; omega
                        | false =>
                          clear h1
                          as_aux_lemma =>
                            go_wp2_with fail
                            go_roundw
                            case rel => exact ⟨m + 1, rfl, by omega, by rw [HV.out]; simp [], hb3.alloc hb3.size _⟩
                            case measure => simp [intOf]; omega
                    | false =>
                      by_cases h1 : y.frame = fr
                      · have h1' : (y.frame == fr) = true := by simp [h1]
                        have HL : Hid (lateB fr y = true) := Lib.hid (by simp [lateB, h1])
                        clear h1
                        have hle := cl_eql g.1 x.1
                        by_cases t1 : g.1 = x.1
                        case neg =>
                          have t1d : decide (g.1 = x.1) = false := decide_eq_false t1
                          have T1 := Lib.hid t1
                          clear t1
                          as_aux_lemma =>
                            go_wp2_with fail
                            go_roundw
                            case rel => exact ⟨m + 1, rfl, by omega, by rw [HV.out]; simp [HL.out, tellG, T1.out], hb3.alloc hb3.size _⟩
                            case measure => simp [intOf]; omega
                        have t1d : decide (g.1 = x.1) = true := decide_eq_true t1
                        have T1 := Lib.hid t1
                        clear t1
                        cases t2 : (y.told.src != x.2.1) with
                        | false =>
                          have T2 := Lib.hid t2
                          as_aux_lemma =>
                            go_wp2_with fail
                            go_roundw
                            case rel => exact ⟨m + 1, rfl, by omega, by rw [HV.out]; simp [HL.out, tellG, T1.out, T2.out], hb3.alloc hb3.size _⟩
                            case measure => simp [intOf]; omega
                        | true =>
                          have T2 := Lib.hid t2
                          by_cases t4 : g.2.2 < x.2.2.1
                          case pos =>
                            have t4d : decide (g.2.2 < x.2.2.1) = true := decide_eq_true t4
                            have T4 := Lib.hid t4
                            clear t4
                            as_aux_lemma =>
                              go_wp2_with fail
                              go_roundw
                              case rel => exact ⟨m + 1, rfl, by omega, by rw [HV.out]; simp [HL.out, tellG, T1.out, T2.out, T4.out], hb3.alloc hb3.size _⟩
                              case measure => simp [intOf]; omega
                          have t4d : decide (g.2.2 < x.2.2.1) = false := decide_eq_false t4
                          have T4 := Lib.hid t4
                          clear t4
                          cases t5 : (g.2.2 == x.2.2.1) with
                          | false =>
                            have T5 := Lib.hid t5
                            as_aux_lemma =>
                              go_wp2_with fail
                              go_roundw
                              case rel => exact ⟨m + 1, rfl, by omega, by rw [HV.out]; simp [HL.out, tellG, T1.out, T2.out, T4.out, T5.out], hb3.alloc hb3.size _⟩
                              case measure => simp [intOf]; omega
                          | true =>
                            have T5 := Lib.hid t5
                            by_cases t6 : y.told.src < x.2.1
                            case pos =>
                              have t6d : decide (y.told.src < x.2.1) = true := decide_eq_true t6
                              have T6 := Lib.hid t6
                              clear t6
                              as_aux_lemma =>
                                go_wp2_with fail
                                go_roundw
                                case rel => exact ⟨m + 1, rfl, by omega, by rw [HV.out]; simp [HL.out, tellG, T1.out, T2.out, T4.out, T5.out, T6.out], hb3.alloc hb3.size _⟩
                                case measure => simp [intOf]; omega
                            have t6d : decide (y.told.src < x.2.1) = false := decide_eq_false t6
                            have T6 := Lib.hid t6
                            clear t6
                            as_aux_lemma =>
                              go_wp2_with fail
                              go_roundw
                              case rel => exact ⟨m + 1, rfl, by omega, by rw [HV.out]; simp [HL.out, tellG, T1.out, T2.out, T4.out, T5.out, T6.out], hb3.alloc hb3.size _⟩
                              case measure => simp [intOf]; omega
                      · have h1' : (y.frame == fr) = false := by simp [h1]
                        cases h2' : (y.frame == wrap64 (fr - 1)) with
                        | true =>
                          have HL : Hid (lateB fr y = true) := Lib.hid (by simp [lateB, h2'])
                          clear h1
                          have hle := cl_eql g.1 x.1
                          by_cases t1 : g.1 = x.1
                          case neg =>
                            have t1d : decide (g.1 = x.1) = false := decide_eq_false t1
                            have T1 := Lib.hid t1
                            clear t1
                            as_aux_lemma =>
                              go_wp2_with fail
                              go_roundw
                              case rel => exact ⟨m + 1, rfl, by omega, by rw [HV.out]; simp [HL.out, tellG, T1.out], hb3.alloc hb3.size _⟩
                              case measure => simp [intOf]; omega
                          have t1d : decide (g.1 = x.1) = true := decide_eq_true t1
                          have T1 := Lib.hid t1
                          clear t1
                          cases t2 : (y.told.src != x.2.1) with
                          | false =>
                            have T2 := Lib.hid t2
                            as_aux_lemma =>
                              go_wp2_with fail
                              go_roundw
                              case rel => exact ⟨m + 1, rfl, by omega, by rw [HV.out]; simp [HL.out, tellG, T1.out, T2.out], hb3.alloc hb3.size _⟩
                              case measure => simp [intOf]; omega
                          | true =>
                            have T2 := Lib.hid t2
                            by_cases t4 : g.2.2 < x.2.2.1
                            case pos =>
                              have t4d : decide (g.2.2 < x.2.2.1) = true := decide_eq_true t4
                              have T4 := Lib.hid t4
                              clear t4
                              as_aux_lemma =>
                                go_wp2_with fail
                                go_roundw
                                case rel => exact ⟨m + 1, rfl, by omega, by rw [HV.out]; simp [HL.out, tellG, T1.out, T2.out, T4.out], hb3.alloc hb3.size _⟩
                                case measure => simp [intOf]; omega
                            have t4d : decide (g.2.2 < x.2.2.1) = false := decide_eq_false t4
                            have T4 := Lib.hid t4
                            clear t4
                            cases t5 : (g.2.2 == x.2.2.1) with
                            | false =>
                              have T5 := Lib.hid t5
                              as_aux_lemma =>
                                go_wp2_with fail
                                go_roundw
                                case rel => exact ⟨m + 1, rfl, by omega, by rw [HV.out]; simp [HL.out, tellG, T1.out, T2.out, T4.out, T5.out], hb3.alloc hb3.size _⟩
                                case measure => simp [intOf]; omega
                            | true =>
                              have T5 := Lib.hid t5
                              by_cases t6 : y.told.src < x.2.1
                              case pos =>
                                have t6d : decide (y.told.src < x.2.1) = true := decide_eq_true t6
                                have T6 := Lib.hid t6
                                clear t6
                                as_aux_lemma =>
                                  go_wp2_with fail
                                  go_roundw
                                  case rel => exact ⟨m + 1, rfl, by omega, by rw [HV.out]; simp [HL.out, tellG, T1.out, T2.out, T4.out, T5.out, T6.out], hb3.alloc hb3.size _⟩
                                  case measure => simp [intOf]; omega
                              have t6d : decide (y.told.src < x.2.1) = false := decide_eq_false t6
                              have T6 := Lib.hid t6
                              clear t6
                              as_aux_lemma =>
                                go_wp2_with fail
                                go_roundw
                                case rel => exact ⟨m + 1, rfl, by omega, by rw [HV.out]; simp [HL.out, tellG, T1.out, T2.out, T4.out, T5.out, T6.out], hb3.alloc hb3.size _⟩
                                case measure => simp [intOf]; omega
                        | false =>
                          have HL : Hid (lateB fr y = false) := Lib.hid (by simp [lateB, h2', h1])
                          clear h1
                          as_aux_lemma =>
                            go_wp2_with fail
                            go_roundw
                            case rel => exact ⟨m + 1, rfl, by omega, by rw [HV.out]; simp [HL.out], hb3.alloc hb3.size _⟩
                            case measure => simp [intOf]; omega
                  · have HE : Hid ((B || (lateB fr y && (y.told.us.take m).any (tellG y.told.src x))) = (near.take (j + 1)).any (betG fr x)) := Lib.hid (by
                      rw [any_take_succ _ HYK.out, HBJ.out, any_take_all _ (by have := LY.out; omega)]
                      rfl)
                    go_wp2_with fail
                    go_roundw
                    case rel => exact ⟨j + 1, rfl, by omega, by rw [HE.out], hB12.trans (hb3.mono hB12.size)⟩
                    case measure => simp [intOf]; omega
              · have HBE : Hid (B = !keepG fr near x) := Lib.hid (by
                  rw [← betG_keep, ← HBJ.out, any_take_all _ (by have := HN.out; omega)])
                have hbW := hbW1.trans (hb2.mono hbW1.size)
                have e0 := cell_on hbW hTT.1
                have e1 := cell_on hbW hTT.2.1
                have e2 := cell_on hbW hTT.2.2.1
                have e3 := cell_on hbW hTT.2.2.2.1
                have e4 := cell_on hbW hTT.2.2.2.2.1
                have e5 := cell_on hbW hTT.2.2.2.2.2.1
                have zt : w.heap.size < wr.heap.size := cell_block e0
                have zb2 : b1 < wr.heap.size := cell_block e3
                have zu2 : bu < wr.heap.size := cell_block su0
                cases hkx : keepG fr near x with
                | false =>
                  have hB1 : B = true := by rw [HBE.out, hkx]; rfl
                  subst hB1
                  have HF := Lib.hid (filter_take_skip HXK.out hkx)
                  clear hkx
                  go_wp2_with fail
                  go_roundw
                  case rel => exact ⟨i0 + 1, rfl, by omega, by rw [HF.out, HKK.out], hbW⟩
                  case measure => simp [intOf]; omega
                | true =>
                  have hB1 : B = false := by rw [HBE.out, hkx]; rfl
                  subst hB1
                  have HF := Lib.hid (filter_take_keep HXK.out hkx)
                  have hat := filter_at HXK.out hkx
                  rw [← G1.out, HKK.out] at hat
                  obtain ⟨ob, oo, oix, o0, o1, o2, o3, o4⟩ := gr_at (ok5.2.1.below hbW (Nat.le_refl _)) hat
                  have hkl : kk < t1.gs.length := (List.getElem?_eq_some_iff.1 hat).1
                  have hkl' : decide ((t1.gL : Int) ≤ (kk : Int)) = false := decide_eq_false (by have := LG1.out; omega)
                  have hklN : decide (t1.gL ≤ kk) = false := decide_eq_false (by have := LG1.out; omega)
                  have hne := gr_neq x x
                  have hxx : decide (x = x) = true := decide_eq_true rfl
                  have hk40 : kk ≤ 40 := by
                    have h := List.length_filter_le (keepG fr near) (t.gs.take i0)
                    rw [HKK.out, List.length_take] at h
                    omega
                  have zo : ob < wr.heap.size := cell_block o0
                  clear hkx hat
                  go_wp2_with fail
                  go_quiet (fail)
                  go_wp2_with fail
                  go_roundw
                  case rel => exact ⟨i0 + 1, rfl, by omega, by rw [HF.out, List.length_append, HKK.out]; rfl, below_drewN hbW _⟩
                  case measure => simp [intOf]; omega
          · have HE1 : Hid (kk = t1.gL) := Lib.hid (by
              rw [← HKK.out, List.take_of_length_le (by have := LG.out; simp at this; omega), ← G1.out, LG1.out])
            rw [HE1.out]
            clear HE1 HKK
            have hsame : (tabK t1).same (tabK t) = true := same_of rfl rfl K1.out
            have HSM := Lib.hid hsame
            clear hsame
            have ok6 := (tabK_ok ok5).below hb (Nat.le_refl _)
            have ht6 := (tabK_ok ht5).below hb (Nat.le_refl _)
            go_wp2_with fail
            have hBa : Below wr.heap.size wr (wr.alloc (.cells #[.slice none 0 0, .slice none 0 0, .slice t1.kA t1.kL t1.kC] 26)) := (Below.refl _ _).alloc (Nat.le_refl _) _
            refine (same_any (tabK t1) (tabK t) _ (ok6.below hBa (Nat.le_refl _)) (ht6.below hBa (Nat.le_refl _))).mono ?_
            rintro e w9 ⟨rfl, hb9⟩
            rw [HSM.out]
            have hB9 := (hB5.trans (hb.mono hB5.size)).trans (hBa.mono (by have := hb.size; have := hB5.size; omega)) |>.trans (hb9.mono (by have := hBa.size; have := hb.size; have := hB5.size; omega))
            clear hb9
            go_wp2_with fail
            go_ret
            exact ⟨rfl, hB9⟩

end Go.Proofs.Ytadiocpcpjbjpaa
