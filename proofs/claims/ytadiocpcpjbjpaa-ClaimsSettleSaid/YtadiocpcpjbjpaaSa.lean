import Derived.Test.YtadiocpcpjbjpaaKd
namespace Go.Proofs.Ytadiocpcpjbjpaa
open Go.RowKit

theorem owns_base2 {w : World} {base base' n : Nat} {e : TypeId} {size : Nat} {v : Value} {xs : List Value} (h : w.ownsRow base e size v n xs) (hb : base' ≤ base) : w.ownsRow base' e size v n xs := by
  rcases h with ⟨h1, h2 | ⟨g, cap, cur, hv, hg, r⟩⟩
  · exact ⟨h1, .inl h2⟩
  · exact ⟨h1, .inr ⟨g, cap, cur, hv, by omega, r⟩⟩

/-- What Yield answers, with rows of its own. -/
def YieldRes2 (w : World) (t : Tb) (fr me : Int) (near : List Nr) (e : Ending) (w' : World) : Prop :=
  ∃ t' : Tb, e = .returned (.agg #[.slice t'.uA t'.uL t'.uC, .slice t'.gA t'.gL t'.gC, .slice t'.kA t'.kL t'.kC]) ∧ (w'.ownsRow (w.heap.size + 3) 35 4 (.slice t'.uA t'.uL t'.uC) t'.uL (t'.us.map usV).flatten ∧
    w'.ownsRow (w.heap.size + 3) 38 5 (.slice t'.gA t'.gL t'.gC) t'.gL (t'.gs.map grV).flatten ∧ t'.kA = t.kA ∧ t'.kL = t.kL ∧ t'.kC = t.kC) ∧ t'.us = t.us.filter (keepU fr me near) ∧ t'.gs = t.gs.filter (keepG fr near) ∧ t'.ks = t.ks ∧ Below w.heap.size w w'

set_option maxRecDepth 100000 in
set_option maxHeartbeats 1000000 in
theorem yield_own (t : Tb) (me fr : Int) (a : Option Addr) (n cap : Nat) (near : List Nr) (w : World) (hm : n ≤ maxLen) (hn : n = near.length) (ht : TbOk w t) (hnear : NearOk w (.slice a n cap) near)
    (hu : t.uL ≤ 100000) (hg : t.gL ≤ 100000) :
    Calls Try.prog 13 #[.agg #[.slice t.uA t.uL t.uC, .slice t.gA t.gL t.gC, .slice t.kA t.kL t.kC], .int .i64 me, .slice a n cap, .int .i64 fr] w (YieldRes2 w t fr me near) := by
  obtain ⟨htu, htg, htk⟩ := ht
  have HN := Lib.hid hn
  have LU := Lib.hid htu.length.1
  have LG := Lib.hid htg.length.1
  clear hn
  go_enter Try.func13, Try.ntmps13
  go_wp2_with fail
  refine wp_name ?_
  intro W0 hW0
  have hY0 : YieldU w t [] W0 := by
    rw [hW0]
    refine ⟨none, 0, ?_, World.ownsRow_nil _ _ _ _, ?_, ?_, ?_, ?_⟩
    · simpa using Blk.new (((w.alloc _).alloc _)) _ _
    · exact ((Blk.new w _ _).alloc _).alloc _
    · simpa using (Blk.new (w.alloc _) _ _).alloc _
    · exact (((Below.refl _ w).alloc (Nat.le_refl _) _).alloc (by simp) _).alloc (by simp; omega) _
    · simp
  clear hW0
  go_loopw [20] (fun i wr => ∃ k : Nat, i = .int .i64 k ∧ k ≤ t.uL ∧ YieldU w t ((t.us.take k).filter (keepU fr me near)) wr) (fun i _ => t.uL - (intOf i).toNat)
  case atStart => exact ⟨0, rfl, by omega, by simpa using hY0⟩
  case round =>
    obtain ⟨k, rfl, hk, hY⟩ := hrel
    obtain ⟨L, hL⟩ : ∃ L, (t.us.take k).filter (keepU fr me near) = L := ⟨_, rfl⟩
    rw [hL] at hY
    obtain ⟨av, cv, b9, own, b4, b8, hB, hz⟩ := hY
    have HL := Lib.hid hL
    clear hL
    by_cases hlt : k < t.uL
    · obtain ⟨x, hxk⟩ : ∃ x, t.us[k]? = some x := ⟨t.us[k]'(by have := LU.out; simp at this; omega), List.getElem?_eq_getElem _⟩
      obtain ⟨b, off, hix, d0, d1, d2, d3⟩ := us_at (htu.below hB (Nat.le_refl _)) hxk
      go_wp2_with fail
      refine wp_name ?_
      intro W1 hW1
      have s0 : W1.cell? ⟨wr.heap.size, 0, none⟩ = some (.int .i64 x.1.1) := by rw [hW1]; go_simp
      have s1 : W1.cell? ⟨wr.heap.size, 1, none⟩ = some (.int .i64 x.1.2) := by rw [hW1]; go_simp
      have s3 : W1.cell? ⟨wr.heap.size, 3, none⟩ = some (.int .i64 x.2.2) := by rw [hW1]; go_simp
      have s2 : W1.cell? ⟨wr.heap.size, 2, none⟩ = some (.int .i64 x.2.1) := by rw [hW1]; go_simp
      have hB1 : Below wr.heap.size wr W1 := by rw [hW1]; exact (Below.refl _ _).alloc (Nat.le_refl _) _
      have hB01 : Below w.heap.size w W1 := hB.trans (hB1.mono (by omega))
      have hnear1 := hnear.below hB01 (Nat.le_refl _)
      have z1 : wr.heap.size < W1.heap.size := by rw [hW1]; simp
      clear hW1 hix d0 d1 d2 d3
      obtain ⟨r, hr⟩ : ∃ r, (toldL fr x.1 true near).any (beatsB (x.2.2, me)) = r := ⟨_, rfl⟩
      have HR := Lib.hid hr
      have HX := Lib.hid hxk
      clear hr hxk
      go_region_held3 (fun W' => W'.cell? ⟨wr.heap.size, 0, none⟩ = some (.int .i64 x.1.1) ∧ W'.cell? ⟨wr.heap.size, 1, none⟩ = some (.int .i64 x.1.2) ∧ W'.cell? ⟨wr.heap.size, 3, none⟩ = some (.int .i64 x.2.2) ∧ W'.cell? ⟨wr.heap.size, 2, none⟩ = some (.int .i64 x.2.1) ∧ Below W1.heap.size W1 W')
        (first | exact ⟨s0, s1, s3, s2, (Below.refl _ _).drew⟩ | assumption)
        (first
          | (go_at_call 26; refine (told_kept a n cap near fr x.1 true W1 _ (b := wr.heap.size) (i := 3) (j := 2) (x := x.2.2) (y := x.2.1) HN.out hm hnear1 (by assumption)).mono ?_; rintro e w' ⟨lb, rfl, hstops, hS⟩)
          | (go_at_call 25; refine (beaten_kept _ _ x.2.2 me _ hstops (by assumption) r HR.out).mono ?_; rintro e w' ⟨rfl, hS⟩))
      obtain ⟨t0, t1, t3, t2, hb2⟩ := hS
      obtain ⟨W2, hW2⟩ : ∃ W2 : World, W2 = w' := ⟨_, rfl⟩
      subst hW2
      have hbw : Below wr.heap.size wr W2 := hB1.trans (hb2.mono (by omega))
      have b9' := b9.below hbw b9.lt
      have own' := owns_below own hbw (Nat.le_refl _)
      have b4' := b4.below hbw b4.lt
      have b8' := b8.below hbw b8.lt
      have hB' : Below w.heap.size w W2 := hB.trans (hbw.mono (by omega))
      have hz' : w.heap.size + 3 ≤ W2.heap.size := by have := hbw.size; omega
      clear b9 own b4 b8 hB hbw hstops hb2
      cases r with
      | true =>
        have HK : Hid ((t.us.take (k + 1)).filter (keepU fr me near) = L) := by rw [← HL.out]; exact filter_take_skip HX.out (by simp [keepU, HR.out])
        go_wp2_with fail
        go_roundw
        case rel => exact ⟨k + 1, rfl, by omega, by rw [HK.out]; exact ⟨av, cv, b9', own', b4', b8', hB', hz'⟩⟩
        case measure => simp [intOf]; omega
      | false =>
        have HK : Hid ((t.us.take (k + 1)).filter (keepU fr me near) = L ++ [x]) := by rw [← HL.out]; exact filter_take_keep HX.out (by simp [keepU, HR.out])
        have hlen : L.length ≤ 100000 := by rw [← HL.out]; exact Nat.le_trans (List.length_filter_le _ _) (by rw [List.length_take]; omega)
        obtain ⟨i0, hi, hz0, hz1, hz2⟩ := info_parts info35
        have c9 := b9'.cell 0
        simp only [List.getElem?_toArray, List.getElem?_cons_zero] at c9
        have B9 := Lib.hid b9'
        have OW := Lib.hid own'
        have B4 := Lib.hid b4'
        have B8 := Lib.hid b8'
        clear b9' own' b4' b8'
        go_wp2_with (at_builtin; refine wpList_append_own _ rfl _ _ 22 rfl (w.heap.size + 3) 35 i0 (.agg #[.int .i64 0, .int .i64 0, .int .i64 0, .int .i64 0]) 4 32 Try.underlying22 hi hz0 hz1 hz2 rfl (by decide) _ _ _ rfl (OW.out.alloc _) ⟨W2.heap.size, 0, none⟩ 1 1 (usV x) rfl rfl (us_new W2 x) (usV_one x) (by unfold maxLen; omega) (by omega) (by simp; omega) ?_; intro v' w1 hown' hgrow _; obtain ⟨g', cap', rfl⟩ := ownsRow_succ hown'; have e9 := blk_append B9.out OW.out (by omega) hgrow; have e9c := e9.cell 0; have e9f := e9.frozen 0; have E9 := Lib.hid e9; have OW1 := Lib.hid hown'; have HG := Lib.hid hgrow; clear e9 hown' hgrow; simp only [List.getElem?_toArray, List.getElem?_cons_zero] at e9c)
        go_roundw
        case rel =>
          refine ⟨k + 1, rfl, by omega, ?_⟩
          rw [HK.out]
          refine ⟨some ⟨g', 0, none⟩, cap', ?_, ?_, ?_, ?_, ?_, ?_⟩
          · rw [List.length_append]
            exact E9.out.set 0 _
          · rw [List.map_append, List.flatten_append, List.length_append]
            simp only [List.map_cons, List.map_nil, List.flatten_cons, List.flatten_nil, List.append_nil, List.length_cons, List.length_nil]
            exact owns_set OW1.out (by omega)
          · exact (blk_append B4.out OW.out (by omega) HG.out).other (by omega) _
          · exact (blk_append B8.out OW.out (by omega) HG.out).other (by omega) _
          · exact ((hB'.alloc (by omega) _).grown HG.out (by simp; omega) (fun k e => by have := (OW.out.lt k e).1; omega)).setCell (by simp; omega) _
          · have := HG.out.size
            simp at this ⊢
            omega
        case measure => simp [intOf]; omega
    · have hL : L = t.us.filter (keepU fr me near) := by
        rw [← HL.out, List.take_of_length_le (by have := LU.out; simp at this; omega)]
      have HLU := Lib.hid hL
      clear hL HL
      have hY : YieldG w t wr.heap.size L [] wr := ⟨av, cv, none, 0, b9, own, fun g hg => (own.lt g hg).2, World.ownsRow_nil _ _ _ _, b4, b8, hB, hz, Nat.le_refl _⟩
      have c4 := b4.cell 1
      simp only [tbV, List.getElem?_toArray, List.getElem?_cons_zero, List.getElem?_cons_succ] at c4
      clear b9 own b4 b8 hB hz
      go_wp2_with fail
      obtain ⟨M, hM⟩ : ∃ M, wr.heap.size = M := ⟨_, rfl⟩
      rw [hM] at hY
      clear hM c4
      obtain ⟨wo, rfl⟩ : ∃ wo : World, wo = wr := ⟨_, rfl⟩
      go_loopw [45] (fun i wr => ∃ k : Nat, i = .int .i64 k ∧ k ≤ t.gL ∧ YieldG w t M L ((t.gs.take k).filter (keepG fr near)) wr) (fun i _ => t.gL - (intOf i).toNat)
      case atStart => exact ⟨0, rfl, by omega, by simpa using hY⟩
      case round =>
        clear hY
        obtain ⟨k2, rfl, hk2, hY⟩ := hrel
        obtain ⟨K, hK⟩ : ∃ K, (t.gs.take k2).filter (keepG fr near) = K := ⟨_, rfl⟩
        rw [hK] at hY
        obtain ⟨av, cv, ag, cg, b9, own, hlM, owng, b4, b8, hB, hM3, hM4⟩ := hY
        have HK0 := Lib.hid hK
        clear hK
        by_cases hlt2 : k2 < t.gL
        · obtain ⟨x, hxk⟩ : ∃ x, t.gs[k2]? = some x := ⟨t.gs[k2]'(by have := LG.out; simp at this; omega), List.getElem?_eq_getElem _⟩
          obtain ⟨b, off, hix, d0, d1, d2, d3, d4⟩ := gr_at (htg.below hB (Nat.le_refl _)) hxk
          go_wp2_with fail
          refine wp_name ?_
          intro W1 hW1
          have s0 : W1.cell? ⟨wr.heap.size, 0, none⟩ = some (.int .i64 x.1.1) := by rw [hW1]; go_simp
          have s1 : W1.cell? ⟨wr.heap.size, 1, none⟩ = some (.int .i64 x.1.2) := by rw [hW1]; go_simp
          have s3 : W1.cell? ⟨wr.heap.size, 3, none⟩ = some (.int .i64 x.2.2.1) := by rw [hW1]; go_simp
          have s2 : W1.cell? ⟨wr.heap.size, 2, none⟩ = some (.int .i64 x.2.1) := by rw [hW1]; go_simp
          have s4 : Blk W1 wr.heap.size (grV x).toArray 38 := by rw [hW1]; exact Blk.new _ _ _
          have hB1 : Below wr.heap.size wr W1 := by rw [hW1]; exact (Below.refl _ _).alloc (Nat.le_refl _) _
          have hB01 : Below w.heap.size w W1 := hB.trans (hB1.mono (by omega))
          have hnear1 := hnear.below hB01 (Nat.le_refl _)
          have z1 : wr.heap.size < W1.heap.size := by rw [hW1]; simp
          have S4 := Lib.hid s4
          clear hW1 hix d0 d1 d2 d3 d4 s4
          obtain ⟨r, hr⟩ : ∃ r, (toldL fr x.1 false near).any (beatsB (x.2.2.1, x.2.1)) = r := ⟨_, rfl⟩
          have HR := Lib.hid hr
          have HX := Lib.hid hxk
          clear hr hxk
          go_region_held3 (fun W' => W'.cell? ⟨wr.heap.size, 0, none⟩ = some (.int .i64 x.1.1) ∧ W'.cell? ⟨wr.heap.size, 1, none⟩ = some (.int .i64 x.1.2) ∧ W'.cell? ⟨wr.heap.size, 3, none⟩ = some (.int .i64 x.2.2.1) ∧ W'.cell? ⟨wr.heap.size, 2, none⟩ = some (.int .i64 x.2.1) ∧ Below W1.heap.size W1 W')
            (first | exact ⟨s0, s1, s3, s2, (Below.refl _ _).drew⟩ | assumption)
            (first
              | (go_at_call 26; refine (told_kept a n cap near fr x.1 false W1 _ (b := wr.heap.size) (i := 3) (j := 2) (x := x.2.2.1) (y := x.2.1) HN.out hm hnear1 (by assumption)).mono ?_; rintro e w' ⟨lb, rfl, hstops, hS⟩)
              | (go_at_call 25; refine (beaten_kept _ _ x.2.2.1 x.2.1 _ hstops (by assumption) r HR.out).mono ?_; rintro e w' ⟨rfl, hS⟩))
          obtain ⟨t0, t1, t3, t2, hb2⟩ := hS
          obtain ⟨W2, hW2⟩ : ∃ W2 : World, W2 = w' := ⟨_, rfl⟩
          subst hW2
          have hbw : Below wr.heap.size wr W2 := hB1.trans (hb2.mono (by omega))
          have b9' := b9.below hbw b9.lt
          have own' := owns_below own hbw (Nat.le_refl _)
          have owng' := owns_below owng hbw (Nat.le_refl _)
          have b4' := b4.below hbw b4.lt
          have b8' := b8.below hbw b8.lt
          have t4 : W2.cell? ⟨wr.heap.size, 4, none⟩ = some (.int .i64 x.2.2.2) := by
            have h := (S4.out.below hb2 z1).cell 4
            simpa [grV] using h
          have hB' : Below w.heap.size w W2 := hB.trans (hbw.mono (by omega))
          have hM' : M ≤ W2.heap.size := by have := hbw.size; omega
          clear b9 own owng b4 b8 hB hbw hstops hb2
          cases r with
          | true =>
            have HK : Hid ((t.gs.take (k2 + 1)).filter (keepG fr near) = K) := by rw [← HK0.out]; exact filter_take_skip HX.out (by simp [keepG, HR.out])
            go_wp2_with fail
            go_roundw
            case rel => exact ⟨k2 + 1, rfl, by omega, by rw [HK.out]; exact ⟨av, cv, ag, cg, b9', own', hlM, owng', b4', b8', hB', hM3, hM'⟩⟩
            case measure => simp [intOf]; omega
          | false =>
            have HK : Hid ((t.gs.take (k2 + 1)).filter (keepG fr near) = K ++ [x]) := by rw [← HK0.out]; exact filter_take_keep HX.out (by simp [keepG, HR.out])
            have hlen : K.length ≤ 100000 := by rw [← HK0.out]; exact Nat.le_trans (List.length_filter_le _ _) (by rw [List.length_take]; omega)
            obtain ⟨i0, hi, hz0, hz1, hz2⟩ := info_parts info38
            have c9 := b9'.cell 1
            simp only [List.getElem?_toArray, List.getElem?_cons_zero, List.getElem?_cons_succ] at c9
            have B9 := Lib.hid b9'
            have OU := Lib.hid own'
            have OW := Lib.hid owng'
            have B4 := Lib.hid b4'
            have B8 := Lib.hid b8'
            have HLM := Lib.hid hlM
            clear b9' own' owng' b4' b8' hlM
            go_wp2_with (at_builtin; refine wpList_append_own _ rfl _ _ 23 rfl M 38 i0 (.agg #[.int .i64 0, .int .i64 0, .int .i64 0, .int .i64 0, .int .i64 0]) 5 40 Try.underlying23 hi hz0 hz1 hz2 rfl (by decide) _ _ _ rfl (OW.out.alloc _) ⟨W2.heap.size, 0, none⟩ 1 1 (grV x) rfl rfl (gr_new W2 x) (grV_one x) (by unfold maxLen; omega) (by omega) (by simp; omega) ?_; intro v' w1 hown' hgrow _; obtain ⟨g', cap', rfl⟩ := ownsRow_succ hown'; have e9 := blk_append B9.out OW.out (by omega) hgrow; have e9c := e9.cell 1; have e9f := e9.frozen 1; have E9 := Lib.hid e9; have OW1 := Lib.hid hown'; have HG := Lib.hid hgrow; clear e9 hown' hgrow; simp only [List.getElem?_toArray, List.getElem?_cons_zero, List.getElem?_cons_succ] at e9c)
            go_roundw
            case rel =>
              refine ⟨k2 + 1, rfl, by omega, ?_⟩
              rw [HK.out]
              refine ⟨av, cv, some ⟨g', 0, none⟩, cap', ?_, ?_, HLM.out, ?_, ?_, ?_, ?_, hM3, ?_⟩
              · rw [List.length_append]
                exact E9.out.set 1 _
              · exact owns_set ((OU.out.alloc _).kept HG.out (own_apart HLM.out OW.out)) (by omega)
              · rw [List.map_append, List.flatten_append, List.length_append]
                simp only [List.map_cons, List.map_nil, List.flatten_cons, List.flatten_nil, List.append_nil, List.length_cons, List.length_nil]
                exact owns_set OW1.out (by omega)
              · exact (blk_append B4.out OW.out (by omega) HG.out).other (by omega) _
              · exact (blk_append B8.out OW.out (by omega) HG.out).other (by omega) _
              · exact ((hB'.alloc (by omega) _).grown HG.out (by simp; omega) (fun k e => by have := (OW.out.lt k e).1; omega)).setCell (by simp; omega) _
              · have := HG.out.size
                simp at this ⊢
                omega
            case measure => simp [intOf]; omega
        · have hKe : K = t.gs.filter (keepG fr near) := by
            rw [← HK0.out, List.take_of_length_le (by have := LG.out; simp at this; omega)]
          have e0 := b9.cell 0
          have e1 := b9.cell 1
          have e2 := b9.cell 2
          have q0 := b8.cell 0
          have q1 := b8.cell 1
          have q2 := b8.cell 2
          have f0 := b8.frozen 0
          have f1 := b8.frozen 1
          have f2 := b8.frozen 2
          simp only [List.getElem?_toArray, List.getElem?_cons_zero, List.getElem?_cons_succ] at e0 e1 e2 q0 q1 q2
          have HKE := Lib.hid hKe
          have OU := Lib.hid own
          have OW := Lib.hid owng
          have B9 := Lib.hid b9
          have HB := Lib.hid hB
          clear hKe own owng b9 b4 hlM hB
          have B8 := Lib.hid b8
          clear b8
          go_wp2_with fail
          have bF := ((B8.out.set 0 (.slice av L.length cv)).set 1 (.slice ag K.length cg)).set 2 (.slice t.kA t.kL t.kC)
          have r0 := bF.cell 0
          have r1 := bF.cell 1
          have r2 := bF.cell 2
          have hBF : Below w.heap.size w (((wr.setCell ⟨w.heap.size + 1, 0, none⟩ (.slice av L.length cv)).setCell ⟨w.heap.size + 1, 1, none⟩ (.slice ag K.length cg)).setCell ⟨w.heap.size + 1, 2, none⟩ (.slice t.kA t.kL t.kC)) :=
            ((HB.out.setCell (by simp) _).setCell (by simp) _).setCell (by simp) _
          have oU := owns_set (b := w.heap.size + 1) (j := 2) (u := .slice t.kA t.kL t.kC) (owns_set (b := w.heap.size + 1) (j := 1) (u := .slice ag K.length cg) (owns_set (b := w.heap.size + 1) (j := 0) (u := .slice av L.length cv) OU.out (by omega)) (by omega)) (by omega)
          have oG := owns_set (b := w.heap.size + 1) (j := 2) (u := .slice t.kA t.kL t.kC) (owns_set (b := w.heap.size + 1) (j := 1) (u := .slice ag K.length cg) (owns_set (b := w.heap.size + 1) (j := 0) (u := .slice av L.length cv) OW.out (by omega)) (by omega)) (by omega)
          refine bodyPost_ret (v := .agg #[.slice av L.length cv, .slice ag K.length cg, .slice t.kA t.kL t.kC]) ?_ rfl ⟨⟨av, L.length, cv, ag, K.length, cg, t.kA, t.kL, t.kC, L, K, t.ks⟩, rfl, ⟨oU, owns_base2 oG (by omega), ⟨rfl, rfl, rfl⟩⟩, HLU.out, HKE.out, rfl, hBF⟩
          · simp only [List.getElem?_toArray, List.getElem?_cons_zero, List.getElem?_cons_succ, List.setIfInBounds_toArray, List.set_cons_zero, List.set_cons_succ] at r0 r1 r2
            simp [results, Try.results13, go_sem, r0, r1, r2]

end Go.Proofs.Ytadiocpcpjbjpaa
