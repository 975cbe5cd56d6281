import Derived.Test.YtadiocpcpjbjpaaRb
import Derived.Test.YtadiocpcpjbjpaaFa
namespace Go.Proofs.Ytadiocpcpjbjpaa
open Go.RowKit

theorem sent_iff {ts : List Tb} {c : Cl} {i : Nat} {t : Tb} (h : ts[i]? = some t) : (c, (i : Int)) ∈ sentTo ts ts.length ↔ t.us.any (fun u => decide (u.1 = c)) = true := by
  have hi : i < ts.length := (List.getElem?_eq_some_iff.1 h).1
  unfold sentTo
  rw [List.mem_flatMap, List.any_eq_true]
  constructor
  · rintro ⟨j, hj, hm⟩
    cases hjt : ts[j]? with
    | none => rw [hjt] at hm; cases hm
    | some t' =>
      rw [hjt] at hm
      obtain ⟨u, hu, he⟩ := List.mem_map.1 hm
      simp only [Prod.mk.injEq] at he
      have : j = i := by omega
      subst this
      rw [h] at hjt
      cases hjt
      exact ⟨u, hu, by simp [he.1]⟩
  · rintro ⟨u, hu, hc⟩
    refine ⟨i, List.mem_range.2 hi, ?_⟩
    rw [h]
    exact List.mem_map.2 ⟨u, hu, by rw [of_decide_eq_true hc]⟩

set_option maxRecDepth 100000 in
theorem sends29 (t : Tb) (c : Cl) (w : World) (ht : TbOk w t) :
    Calls Try.prog 29 #[.agg #[.slice t.uA t.uL t.uC, .slice t.gA t.gL t.gC, .slice t.kA t.kL t.kC], .agg #[.int .i64 c.1, .int .i64 c.2]] w fun e w' => e = .returned (.bool (t.us.any fun u => decide (u.1 = c))) ∧ Below w.heap.size w w' := by
  have LU := Lib.hid ht.1.length.1
  have mu := ht.1.length.2
  unfold maxLen at mu
  go_enter Try.func29, Try.ntmps29
  go_wp2_with fail
  refine wp_name ?_
  intro W0 hW0
  have hB0 : Below w.heap.size w W0 := by rw [hW0]; exact ((Below.refl _ _).alloc (Nat.le_refl _) _).alloc (by simp) _
  have s0 : W0.cell? ⟨w.heap.size, 0, none⟩ = some (.slice t.uA t.uL t.uC) := by rw [hW0]; go_simp
  have s1 : W0.cell? ⟨w.heap.size + 1, 0, none⟩ = some (.int .i64 c.1) := by rw [hW0]; go_simp
  have s2 : W0.cell? ⟨w.heap.size + 1, 1, none⟩ = some (.int .i64 c.2) := by rw [hW0]; go_simp
  clear hW0
  have hu0 := ht.1.below hB0 (Nat.le_refl _)
  go_loopw [5] (fun i wr => ∃ k : Nat, i = .int .i64 k ∧ k ≤ t.uL ∧ (t.us.take k).any (fun u => decide (u.1 = c)) = false ∧ Below W0.heap.size W0 wr) (fun i _ => t.uL - (intOf i).toNat)
  case atStart => exact ⟨0, rfl, by omega, by simp, Below.refl _ _⟩
  case round =>
    obtain ⟨k, rfl, hk, hx, hb⟩ := hrel
    have p0 := cell_on hb s0
    have p1 := cell_on hb s1
    have p2 := cell_on hb s2
    have z0 := cell_block p0
    have z1 := cell_block p1
    dsimp only at z0 z1
    by_cases hlt : k < t.uL
    · obtain ⟨x, hxk⟩ : ∃ x, t.us[k]? = some x := ⟨t.us[k]'(by have := LU.out; simp at this; omega), List.getElem?_eq_getElem _⟩
      obtain ⟨b, off, hix, d0, d1, d2, d3⟩ := us_at (hu0.below hb (Nat.le_refl _)) hxk
      have zx := cell_block d0
      have he := cl_eql x.1 c
      cases hd : decide (x.1 = c) with
      | true =>
        have HX := Lib.hid (any_found (p := fun u : Us => decide (u.1 = c)) hxk hd)
        clear hxk hx
        go_wp2_with fail
        go_quiet (fail)
        go_wp2_with fail
        go_ret
        exact ⟨ret_bool HX.out.symm, below_drewN (hB0.trans (hb.mono hB0.size)) _⟩
      | false =>
        have HX := Lib.hid (any_step_false (p := fun u : Us => decide (u.1 = c)) hxk hx hd)
        clear hxk hx
        go_wp2_with fail
        go_quiet (fail)
        go_wp2_with fail
        go_roundw
        case rel => exact ⟨k + 1, rfl, by omega, HX.out, below_drewN hb _⟩
        case measure => simp [intOf]; omega
    · have HF : Hid (t.us.any (fun u => decide (u.1 = c)) = false) := Lib.hid (by rw [← any_take_all (k := k) _ (by have := LU.out; simp at this; omega), hx])
      clear hx
      go_wp2_with fail
      go_ret
      exact ⟨ret_bool HF.out.symm, hB0.trans (hb.mono hB0.size)⟩

/-- What the test of a clash reads. -/
abbrev CS (bR : Nat) (g : Gr) (bh oh : Nat) (hv : Value) (bb ob : Nat) (bv : Value) (bt ot : Nat) (t : Tb) (A W : World) : Prop :=
  W.cell? ⟨bR, 0, none⟩ = some (.int .i64 g.1.1) ∧ W.cell? ⟨bR, 1, none⟩ = some (.int .i64 g.1.2) ∧ W.cell? ⟨bR, 2, none⟩ = some (.int .i64 g.2.1) ∧ W.cell? ⟨bh, oh, none⟩ = some hv ∧ W.cell? ⟨bb, ob, none⟩ = some bv ∧
  W.cell? ⟨bt, ot, none⟩ = some (.slice t.uA t.uL t.uC) ∧ W.cell? ⟨bt, ot + 1, none⟩ = some (.slice t.gA t.gL t.gC) ∧ W.cell? ⟨bt, ot + 2, none⟩ = some (.slice t.kA t.kL t.kC) ∧ Below A.heap.size A W
theorem CS.on {bR : Nat} {g : Gr} {bh oh : Nat} {hv : Value} {bb ob : Nat} {bv : Value} {bt ot : Nat} {t : Tb} {A W W' : World} (h : CS bR g bh oh hv bb ob bv bt ot t A W) (hb : Below W.heap.size W W') : CS bR g bh oh hv bb ob bv bt ot t A W' :=
  ⟨cell_on hb h.1, cell_on hb h.2.1, cell_on hb h.2.2.1, cell_on hb h.2.2.2.1, cell_on hb h.2.2.2.2.1, cell_on hb h.2.2.2.2.2.1, cell_on hb h.2.2.2.2.2.2.1, cell_on hb h.2.2.2.2.2.2.2.1, h.2.2.2.2.2.2.2.2.trans (hb.mono h.2.2.2.2.2.2.2.2.size)⟩
theorem sends_kept {bR : Nat} {g : Gr} {bh oh : Nat} {hv : Value} {bb ob : Nat} {bv : Value} {bt ot : Nat} {t : Tb} {A W : World} {r : Bool} (ht : TbOk A t) (hr : (t.us.any fun u => decide (u.1 = g.1)) = r) (h : CS bR g bh oh hv bb ob bv bt ot t A W) :
    Calls Try.prog 29 #[.agg #[.slice t.uA t.uL t.uC, .slice t.gA t.gL t.gC, .slice t.kA t.kL t.kC], .agg #[.int .i64 g.1.1, .int .i64 g.1.2]] W fun e w' => e = .returned (.bool r) ∧ CS bR g bh oh hv bb ob bv bt ot t A w' := by
  subst hr
  exact (sends29 t g.1 W (ht.below h.2.2.2.2.2.2.2.2 (Nat.le_refl _))).mono fun _ _ ⟨h1, h2⟩ => ⟨h1, h.on h2⟩

set_option maxRecDepth 100000 in
set_option maxHeartbeats 4000000 in
theorem clashesR_any (ha ta : Option Addr) (hn hc tn tc : Nat) (fr : Int) (hs : List (List Bool)) (ts : List Tb) (w : World) (hH : HearsOk w (.slice ha hn hc) hs) (hT : TabsOk w (.slice ta tn tc) ts)
    (h12 : tn ≤ 12) (h40 : ∀ t ∈ ts, t.uL ≤ 40 ∧ t.gL ≤ 40) :
    Calls Try.prog 21 #[.slice ha hn hc, .slice ta tn tc, .int .i64 fr] w (ClashRes w (clashesL hs ts fr)) := by
  have LH := Lib.hid hH.length
  have LT := Lib.hid hT.length
  go_enter Try.func21, Try.ntmps21
  go_wp2_with fail
  refine (square_any ha hn hc tn hs w hH (by have := LT.out; omega)).mono ?_
  rintro e w1 ⟨rfl, hb1⟩
  cases hsq : squareB hs tn with
  | false =>
    have hx : clashesL hs ts fr = [] := by
      unfold clashesL
      rw [if_neg]
      rintro ⟨h1, h2⟩
      have h3 := LT.out.1
      have : squareB hs tn = true := by
        unfold squareB
        rw [decide_eq_true (h1.trans h3.symm), List.all_eq_true.2 (fun h hm => decide_eq_true ((h2 h hm).trans h3.symm))]
        rfl
      rw [hsq] at this
      cases this
    clear hsq
    go_wp2_with fail
    go_ret
    rw [hx]
    exact clash_nil hb1
  | true =>
    have hsq2 : hs.length = tn ∧ ∀ h ∈ hs, h.length = tn := by
      unfold squareB at hsq
      rw [Bool.and_eq_true, decide_eq_true_eq, List.all_eq_true] at hsq
      exact ⟨hsq.1, fun h hm => of_decide_eq_true (hsq.2 h hm)⟩
    obtain ⟨P, hP⟩ : ∃ P, sentTo ts ts.length = P := ⟨_, rfl⟩
    have hCl : clashesL hs ts fr = (List.range tn).flatMap (hitsL P fr hs ts) := by
      have h3 := LT.out.1
      unfold clashesL
      rw [if_pos ⟨hsq2.1.trans h3, fun h hm => (hsq2.2 h hm).trans h3⟩, ← h3, h3, hP, ← h3]
    have HP := Lib.hid hP
    have HCL := Lib.hid hCl
    have HSQ := Lib.hid hsq2
    clear hsq hsq2 hP hCl
    obtain ⟨M, hM⟩ : ∃ M, w1.heap.size = M := ⟨_, rfl⟩
    have HM := Lib.hid hM
    have hlo := hb1.size
    have hH1 := hH.below hb1 (Nat.le_refl _)
    have hT1 := hT.below hb1 (Nat.le_refl _)
    clear hM
    go_wp2_with fail
    go_loopw [7, 8] (fun v i wr => ∃ (k1 : Nat) (out : List Ch), i = .int .i64 k1 ∧ k1 ≤ tn ∧ out = (List.range k1).flatMap (hitsL P fr hs ts) ∧ ClashSt w1 M (k1 * 800) v out wr) (fun _ i _ => tn - (intOf i).toNat)
    case atStart => exact ⟨0, [], rfl, by omega, rfl, none, 0, rfl, by simp, World.ownsRow_nil _ _ _ _, Below.refl _ _⟩
    case round =>
      obtain ⟨k1, out, rfl, hk1, hout, ag, cg, rfl, hol, own, hB1⟩ := hrel
      have HO1 := Lib.hid hout
      clear hout
      by_cases hlt1 : k1 < tn
      · obtain ⟨t, htk⟩ : ∃ t, ts[k1]? = some t := ⟨ts[k1]'(by have := LT.out.1; omega), List.getElem?_eq_getElem _⟩
        obtain ⟨row, hrk⟩ : ∃ row, hs[k1]? = some row := ⟨hs[k1]'(by have := HSQ.out.1; omega), List.getElem?_eq_getElem _⟩
        obtain ⟨b, off, hix, d0, d1, d2, tok⟩ := tab_at hT1 htk
        have tok0 := (hT1.2 t (List.mem_of_getElem? htk)).2.1
        have hLG := Lib.hid tok0.length.1
        have hg40 := (h40 t (List.mem_of_getElem? htk)).2
        have HRL := Lib.hid (HSQ.out.2 row (List.mem_of_getElem? hrk))
        have hr12 : row.length ≤ 12 := by have := HRL.out; omega
        obtain ⟨b', off', ra, rc, hix', e0, rok⟩ := hears_at hH1 hrk
        have HTK := Lib.hid htk
        have HRK := Lib.hid hrk
        have HIX := Lib.hid hix
        have HIX' := Lib.hid hix'
        have D1 := Lib.hid d1
        have E0 := Lib.hid e0
        clear htk hrk hix hix' d0 d1 d2 tok e0
        go_wp2_with fail
        obtain ⟨wo, rfl⟩ : ∃ wo : World, wo = wr := ⟨_, rfl⟩
        go_loopw [7, 9] (fun v i wr => ∃ (j : Nat) (out2 : List Ch), i = .int .i64 j ∧ j ≤ t.gL ∧ out2 = out ++ (t.gs.take j).flatMap (hitsG P fr k1 row) ∧ ClashSt w1 M (k1 * 800 + j * 20) v out2 wr) (fun _ i _ => t.gL - (intOf i).toNat)
        case atStart => exact ⟨0, out, rfl, by omega, by simp, ag, cg, rfl, by omega, own, hB1⟩
        case round =>
          clear own hB1 hol
          obtain ⟨j, out2, rfl, hj, hout2, ag2, cg2, rfl, hol, own, hB1⟩ := hrel
          have HO := Lib.hid hout2
          clear hout2
          have hix := HIX.out
          have d1 := (hB1.cell (p := ⟨b, off + k1 * 3 + 1, none⟩) (by have := HM.out; have := cell_block D1.out; dsimp only at this ⊢; omega)).trans D1.out
          have zb := cell_block d1
          dsimp only at zb
          by_cases hltj : j < t.gL
          · obtain ⟨x, hxj⟩ : ∃ x, t.gs[j]? = some x := ⟨t.gs[j]'(by have := hLG.out; simp at this; omega), List.getElem?_eq_getElem _⟩
            obtain ⟨gb, go, gix, g0, g1, g2, g3, g4⟩ := gr_at (tok0.below hB1 (by have := HM.out; omega)) hxj
            have zg := cell_block g0
            have HXJ := Lib.hid hxj
            clear hxj
            go_wp2_with fail
            refine wp_name ?_
            intro W2 hW2
            have bx : Blk W2 wr.heap.size (grV x).toArray 38 := by rw [hW2]; exact Blk.new _ _ _
            have hBa : Below wr.heap.size wr W2 := by rw [hW2]; exact (Below.refl _ _).alloc (Nat.le_refl _) _
            have hsz : w1.heap.size ≤ wr.heap.size := hB1.size
            have own2 := owns_below own hBa (Nat.le_refl _)
            have hB2 : Below M w1 W2 := hB1.trans (hBa.mono (by have := HM.out; omega))
            have hMx : M ≤ wr.heap.size := by have := HM.out; omega
            clear hW2 hix d1 zb gix g0 g1 g2 g3 g4 own hB1 hBa zg
            obtain ⟨bR, hbR⟩ : ∃ bR, wr.heap.size = bR := ⟨_, rfl⟩
            rw [hbR] at bx hMx ⊢
            obtain ⟨wp, rfl⟩ : ∃ wp : World, wp = wr := ⟨_, rfl⟩
            clear hbR hsz
            go_loopw [7, 11] (fun v i wr => ∃ (m : Nat) (out3 : List Ch), i = .int .i64 m ∧ m ≤ row.length ∧ (x.2.2.2 < fr → m = 0) ∧ out3 = out2 ++ (List.range m).flatMap (hitAt P k1 x row) ∧ ClashSt w1 M (k1 * 800 + j * 20 + m) v out3 wr ∧ Blk wr bR (grV x).toArray 38) (fun _ i _ => row.length - (intOf i).toNat)
            case atStart => exact ⟨0, out2, rfl, by omega, fun _ => rfl, by simp, ⟨ag2, cg2, rfl, by omega, own2, hB2⟩, bx⟩
            case round =>
              clear own2 hB2 bx
              obtain ⟨m, out3, rfl, hm, hm0, hout3, ⟨ag3, cg3, rfl, hol3, own, hB1⟩, bx⟩ := hrel
              have HO3 := Lib.hid hout3
              clear hout3
              have c0 := bx.cell 0
              have c1 := bx.cell 1
              have c2 := bx.cell 2
              have c4 := bx.cell 4
              simp only [grV, List.getElem?_toArray, List.getElem?_cons_zero, List.getElem?_cons_succ] at c0 c1 c2 c4
              have zR := bx.lt
              have hrl : row.length = tn := HRL.out
              by_cases hltm : m < tn
              · by_cases hun : x.2.2.2 < fr
                · have hun' : decide (fr ≤ x.2.2.2) = false := decide_eq_false (by omega)
                  have hmz := hm0 hun
                  have HE : Hid (out3 = out ++ (t.gs.take (j + 1)).flatMap (hitsG P fr k1 row)) := Lib.hid (by
                    rw [HO3.out, HO.out, List.take_add_one, HXJ.out, List.flatMap_append, hmz]
                    simp [hitsG, hun])
                  have OW := Lib.hid own
                  have HB1 := Lib.hid hB1
                  clear hun hm0 hmz own hB1 bx hrl
                  go_wp2_with fail
                  go_roundw
                  case rel => exact ⟨j + 1, out3, rfl, by omega, HE.out, ag3, cg3, rfl, by have := HRL.out; omega, OW.out, HB1.out⟩
                  case measure => simp [intOf]; omega
                · have hun' : decide (fr ≤ x.2.2.2) = true := decide_eq_true (by omega)
                  obtain ⟨y, hy⟩ : ∃ y, row[m]? = some y := ⟨row[m]'(by omega), List.getElem?_eq_getElem _⟩
                  obtain ⟨t2, ht2⟩ : ∃ t2, ts[m]? = some t2 := ⟨ts[m]'(by have := LT.out.1; omega), List.getElem?_eq_getElem _⟩
                  obtain ⟨bb, ob, bix, q0⟩ := bit_at (rok.below hB1 (by have := HM.out; omega)) hy
                  obtain ⟨tb, ot, tix, v0, v1, v2, tok2⟩ := tab_at (hT1.below hB1 (by have := HM.out; omega)) ht2
                  have hix' := HIX'.out
                  have e0 := (hB1.cell (p := ⟨b', off' + k1, none⟩) (by have := HM.out; have := cell_block E0.out; dsimp only at this ⊢; omega)).trans E0.out
                  have zq := cell_block q0
                  have ze := cell_block e0
                  have zv := cell_block v0
                  dsimp only at zq ze zv
                  have hskip : hitAt P k1 x row m = [] → out3 = out2 ++ (List.range (m + 1)).flatMap (hitAt P k1 x row) := fun h => by
                    rw [HO3.out, List.range_succ, List.flatMap_append]
                    simp [h]
                  have hkeep : hitAt P k1 x row m = [(x.1, (k1 : Int), x.2.1, (m : Int))] → out3 ++ [(x.1, (k1 : Int), x.2.1, (m : Int))] = out2 ++ (List.range (m + 1)).flatMap (hitAt P k1 x row) := fun h => by
                    rw [HO3.out, List.range_succ, List.flatMap_append]
                    simp [h]
                  have hsent : ((x.1, (m : Int)) ∈ P) ↔ t2.us.any (fun u => decide (u.1 = x.1)) = true := by
                    rw [← HP.out]
                    exact sent_iff ht2
                  have HSK := Lib.hid hskip
                  have HKE := Lib.hid hkeep
                  have HSE := Lib.hid hsent
                  have HB1 := Lib.hid hB1
                  have HBX := Lib.hid bx
                  have OW := Lib.hid own
                  have HY := Lib.hid hy
                  have HUN := Lib.hid hun
                  clear hskip hkeep hsent hB1 bx own hy hun hm0 ht2 hrl
                  have hltm2 : m < row.length := by have := HRL.out; omega
                  have hMW : M ≤ wr.heap.size := by have := HB1.out.size; have := HM.out; omega
                  have hCS : CS bR x b' (off' + k1) (.slice ra row.length rc) bb (ob + m) (.bool y) tb (ot + m * 3) t2 wr wr := ⟨c0, c1, c2, e0, q0, v0, v1, v2, Below.refl _ _⟩
                  by_cases h1 : (m : Int) = k1
                  · have hsk := HSK.out (by simp [hitAt, h1])
                    have HK := Lib.hid hsk
                    have h1' : ((m : Int) != (k1 : Int)) = false := by simp [h1]
                    clear hsk h1
                    go_wp2_with fail
                    go_quiet (fail)
                    go_wp2_with fail
                    go_roundw
                    case rel => exact ⟨m + 1, out3, rfl, by have := HRL.out; omega, fun h => absurd h (by have := HUN.out; omega), HK.out, ⟨ag3, cg3, rfl, by omega, owns_below OW.out (below_drewN (Below.refl _ _) _) (Nat.le_refl _), below_drewN HB1.out _⟩, HBX.out.below (below_drewN (Below.refl _ _) _) HBX.out.lt⟩
                    case measure => simp [intOf]; omega
                  · have h1' : ((m : Int) != (k1 : Int)) = true := by simpa using h1
                    cases h2' : ((m : Int) != x.2.1) with
                    | false =>
                      have h2 : (m : Int) = x.2.1 := by simpa using h2'
                      have hsk := HSK.out (by simp [hitAt, h2])
                      have HK := Lib.hid hsk
                      clear hsk h1 h2
                      go_wp2_with fail
                      go_quiet (fail)
                      go_wp2_with fail
                      go_roundw
                      case rel => exact ⟨m + 1, out3, rfl, by have := HRL.out; omega, fun h => absurd h (by have := HUN.out; omega), HK.out, ⟨ag3, cg3, rfl, by omega, owns_below OW.out (below_drewN (Below.refl _ _) _) (Nat.le_refl _), below_drewN HB1.out _⟩, HBX.out.below (below_drewN (Below.refl _ _) _) HBX.out.lt⟩
                      case measure => simp [intOf]; omega
                    | true =>
                      have h2 : (m : Int) ≠ x.2.1 := by simpa using h2'
                      cases y with
                      | false =>
                        have hsk := HSK.out (by simp [hitAt, HY.out])
                        have HK := Lib.hid hsk
                        clear hsk h1 h2
                        go_wp2_with fail
                        go_quiet (fail)
                        go_wp2_with fail
                        go_roundw
                        case rel => exact ⟨m + 1, out3, rfl, by have := HRL.out; omega, fun h => absurd h (by have := HUN.out; omega), HK.out, ⟨ag3, cg3, rfl, by omega, owns_below OW.out (below_drewN (Below.refl _ _) _) (Nat.le_refl _), below_drewN HB1.out _⟩, HBX.out.below (below_drewN (Below.refl _ _) _) HBX.out.lt⟩
                        case measure => simp [intOf]; omega
                      | true =>
                        have tokw : TbOk wr t2 := tok2
                        cases h3 : (t2.us.any fun u => decide (u.1 = x.1)) with
                        | true =>
                          have hke := HKE.out (by rw [hitAt, if_pos ⟨HY.out, h1, h2, HSE.out.2 h3⟩])
                          have HK := Lib.hid hke
                          clear hke h1 h2
                          go_wp2_with fail
                          go_region_held3 (fun W' => W'.cell? ⟨bR, 0, none⟩ = some (.int .i64 x.1.1) ∧ W'.cell? ⟨bR, 1, none⟩ = some (.int .i64 x.1.2) ∧ W'.cell? ⟨bR, 2, none⟩ = some (.int .i64 x.2.1) ∧ W'.cell? ⟨b', off' + k1, none⟩ = some (.slice ra row.length rc) ∧ W'.cell? ⟨bb, ob + m, none⟩ = some (.bool true) ∧
                              W'.cell? ⟨tb, ot + m * 3, none⟩ = some (.slice t2.uA t2.uL t2.uC) ∧ W'.cell? ⟨tb, ot + m * 3 + 1, none⟩ = some (.slice t2.gA t2.gL t2.gC) ∧ W'.cell? ⟨tb, ot + m * 3 + 2, none⟩ = some (.slice t2.kA t2.kL t2.kC) ∧ Below wr.heap.size wr W')
                            (first | with_reducible assumption | with_reducible exact CS.on hCS ((Below.refl _ _).drew))
                            (first
                              | (go_at_call 29; with_reducible refine (sends_kept tokw h3 (by with_reducible assumption)).mono ?_; rintro e w' ⟨rfl, hS⟩))
                          obtain ⟨W3, hW3⟩ : ∃ W : World, W = w' := ⟨_, rfl⟩
                          subst hW3
                          have hb3 := hS.2.2.2.2.2.2.2.2
                          have OW3 := Lib.hid (owns_below OW.out hb3 (Nat.le_refl _))
                          have HB3 := Lib.hid (HB1.out.trans (hb3.mono hMW))
                          have HBX3 := Lib.hid (HBX.out.below hb3 HBX.out.lt)
                          have hM3 : M ≤ W3.heap.size := by have := hb3.size; omega
                          have hol3' : out3.length ≤ 100000 := by have := hg40; omega
                          have c0 := HBX3.out.cell 0
                          have c1 := HBX3.out.cell 1
                          have c2 := HBX3.out.cell 2
                          simp only [grV, List.getElem?_toArray, List.getElem?_cons_zero, List.getElem?_cons_succ] at c0 c1 c2
                          have zR3 := HBX3.out.lt
                          clear hS hb3 hCS zq ze zv zR
                          obtain ⟨i0, hi, hz0, hz1, hz2⟩ := info_parts info48
                          go_wp2_with (at_builtin; refine wpList_append_own _ rfl _ _ 45 rfl M 48 i0 (.agg #[.int .i64 0, .int .i64 0, .int .i64 0, .int .i64 0, .int .i64 0]) 5 40 Try.underlying45 hi hz0 hz1 hz2 rfl (by decide) _ _ _ rfl (OW3.out.alloc _) ⟨W3.heap.size, 0, none⟩ 1 1 (chV (x.1, (k1 : Int), x.2.1, (m : Int))) rfl rfl (ch_new W3 (x.1, (k1 : Int), x.2.1, (m : Int))) (chV_one _) (by unfold maxLen; omega) (by omega) (by simp; omega) ?_; intro v' wq hown' hgrow _; obtain ⟨g', cap', rfl⟩ := ownsRow_succ hown'; have bx' := blk_append' HBX3.out OW3.out (by decide) hgrow; have BX1 := Lib.hid bx'; have OW1 := Lib.hid hown'; have HG := Lib.hid hgrow; clear bx' hown' hgrow)
                          go_roundw
                          case rel =>
                            refine ⟨m + 1, out3 ++ [(x.1, (k1 : Int), x.2.1, (m : Int))], rfl, by have := HRL.out; omega, fun h => absurd h (by have := HUN.out; omega), HK.out, ⟨some ⟨g', 0, none⟩, cap', by simp, by simp; omega, ?_, ?_⟩, BX1.out⟩
                            · rw [List.map_append, List.flatten_append, List.length_append]
                              simp only [List.map_cons, List.map_nil, List.flatten_cons, List.flatten_nil, List.append_nil, List.length_cons, List.length_nil]
                              exact OW1.out
                            · exact (HB3.out.alloc (by omega) _).grown HG.out (by simp; omega) (fun k e => (OW3.out.lt k e).1)
                          case measure => simp [intOf]; omega
                        | false =>
                          have hsk := HSK.out (by rw [hitAt, if_neg (fun h => by have := HSE.out.1 h.2.2.2; rw [h3] at this; cases this)])
                          have HK := Lib.hid hsk
                          clear hsk h1 h2
                          go_wp2_with fail
                          go_region_held3 (fun W' => W'.cell? ⟨bR, 0, none⟩ = some (.int .i64 x.1.1) ∧ W'.cell? ⟨bR, 1, none⟩ = some (.int .i64 x.1.2) ∧ W'.cell? ⟨bR, 2, none⟩ = some (.int .i64 x.2.1) ∧ W'.cell? ⟨b', off' + k1, none⟩ = some (.slice ra row.length rc) ∧ W'.cell? ⟨bb, ob + m, none⟩ = some (.bool true) ∧
                              W'.cell? ⟨tb, ot + m * 3, none⟩ = some (.slice t2.uA t2.uL t2.uC) ∧ W'.cell? ⟨tb, ot + m * 3 + 1, none⟩ = some (.slice t2.gA t2.gL t2.gC) ∧ W'.cell? ⟨tb, ot + m * 3 + 2, none⟩ = some (.slice t2.kA t2.kL t2.kC) ∧ Below wr.heap.size wr W')
                            (first | with_reducible assumption | with_reducible exact CS.on hCS ((Below.refl _ _).drew))
                            (first
                              | (go_at_call 29; with_reducible refine (sends_kept tokw h3 (by with_reducible assumption)).mono ?_; rintro e w' ⟨rfl, hS⟩))
                          obtain ⟨W3, hW3⟩ : ∃ W : World, W = w' := ⟨_, rfl⟩
                          subst hW3
                          have hb3 := hS.2.2.2.2.2.2.2.2
                          have OW3 := Lib.hid (owns_below OW.out hb3 (Nat.le_refl _))
                          have HB3 := Lib.hid (HB1.out.trans (hb3.mono hMW))
                          have HBX3 := Lib.hid (HBX.out.below hb3 HBX.out.lt)
                          have hM3 : M ≤ W3.heap.size := by have := hb3.size; omega
                          have hol3' : out3.length ≤ 100000 := by have := hg40; omega
                          clear hS hb3 hCS zq ze zv zR
                          go_wp2_with fail
                          go_roundw
                          case rel => exact ⟨m + 1, out3, rfl, by have := HRL.out; omega, fun h => absurd h (by have := HUN.out; omega), HK.out, ⟨ag3, cg3, rfl, by omega, OW3.out, HB3.out⟩, HBX3.out⟩
                          case measure => simp [intOf]; omega
              · have HE : Hid (out3 = out ++ (t.gs.take (j + 1)).flatMap (hitsG P fr k1 row)) := Lib.hid (by
                  have hmr : m = row.length := by omega
                  by_cases hun : x.2.2.2 < fr
                  · have hmz := hm0 hun
                    rw [HO3.out, HO.out, List.take_add_one, HXJ.out, List.flatMap_append, hmz]
                    simp [hitsG, hun]
                  · have hgg : hitsG P fr k1 row x = (List.range row.length).flatMap (hitAt P k1 x row) := if_neg hun
                    rw [HO3.out, HO.out, List.take_add_one, HXJ.out, List.flatMap_append, hmr]
                    simp [hgg])
                have OW := Lib.hid own
                have HB1 := Lib.hid hB1
                clear hm0 own hB1 bx hrl
                go_wp2_with fail
                go_roundw
                case rel => exact ⟨j + 1, out3, rfl, by omega, HE.out, ag3, cg3, rfl, by have := HRL.out; omega, OW.out, HB1.out⟩
                case measure => simp [intOf]; omega
          · go_wp2_with fail
            have hjg : t.gs.take j = t.gs := List.take_of_length_le (by have := hLG.out; simp at this; omega)
            go_roundw
            case rel =>
              refine ⟨k1 + 1, out2, rfl, by omega, ?_, ag2, cg2, rfl, by omega, own, hB1⟩
              rw [HO.out, hjg, List.range_succ, List.flatMap_append, HO1.out]
              simp [hitsL, HTK.out, HRK.out]
            case measure => simp [intOf]; omega
      · go_wp2_with fail
        have hkk : k1 = tn := by omega
        rw [hkk] at HO1
        rw [HCL.out, ← HO1.out]
        refine bodyPost_ret (v := .slice ag out.length cg) (by simp [results, Try.results21, go_sem]) rfl ⟨ag, cg, rfl, ?_, ?_⟩
        · exact owns_rows own (out.map chV) (by simp) rfl (by intro cs h; obtain ⟨x, _, rfl⟩ := List.mem_map.1 h; rfl)
        · exact hb1.trans (hB1.mono (by have := HM.out; omega))

end Go.Proofs.Ytadiocpcpjbjpaa
