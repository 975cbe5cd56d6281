import Derived.Test.YtadiocpcpjbjpaaKd
import Derived.Test.YtadiocpcpjbjpaaOb
namespace Go.Proofs.Ytadiocpcpjbjpaa
open Go.RowKit

set_option maxRecDepth 100000 in
set_option maxHeartbeats 4000000 in
theorem ClaimsFound_walk (ha : Option Addr) (hn hc : Nat) (hs : List (List Bool)) (ta : Option Addr) (tn tc : Nat) (ts : List Tb) (fr who : Int) (deaf : Bool) (w : World) (hH : HearsOk w (.slice ha hn hc) hs) (hT : TabsOk w (.slice ta tn tc) ts) (hwho : 0 ≤ who ∧ who ≤ 255) :
    Calls Try.prog 4 #[.slice ha hn hc, .slice ta tn tc, .int .i64 fr, .int .u8 who, .bool deaf] w fun e w' => e = .returned (.bool true) ∧ Below w.heap.size w w' := by
  have LH := Lib.hid hH.length
  have LT := Lib.hid hT.length
  have mt : tn ≤ 9223372036854775807 := by have := LT.out; unfold maxLen at this; omega
  go_enter Try.func4, Try.ntmps4
  go_wp2_with fail
  refine (head_any _).mono ?_
  rintro e w1 ⟨rfl, hB1⟩
  go_wp2_with fail
  refine (fewHT_any ha ta hn hc tn tc hs ts w1 (hH.below hB1 (Nat.le_refl _)) (hT.below hB1 (Nat.le_refl _))).mono ?_
  rintro e w2 ⟨rfl, hb2⟩
  have hB2 := hB1.trans (hb2.mono hB1.size)
  clear hB1 hb2
  cases hft : fewHT hs ts with
  | false =>
    clear hft
    go_wp2_with fail
    go_ret
    exact ⟨rfl, hB2⟩
  | true =>
    unfold fewHT at hft
    simp only [Bool.and_eq_true, decide_eq_true_eq] at hft
    obtain ⟨⟨⟨f1, f2⟩, f3⟩, f4⟩ := hft
    have h12 : tn ≤ 12 := by have := LT.out; omega
    have h40 : ∀ t ∈ ts, t.uL ≤ 40 ∧ t.gL ≤ 40 := fun t hm => by
      have := of_decide_eq_true (List.all_eq_true.1 f1 t hm)
      exact ⟨this.1, this.2.1⟩
    clear f1 f2 f3 f4
    by_cases h0 : tn = 0
    · have e0 : ((tn : Int) == 0) = true := by simp [h0]
      clear h0
      go_wp2_with fail
      go_ret
      exact ⟨rfl, hB2⟩
    have e0 : ((tn : Int) == 0) = false := by simpa using h0
    go_wp2_with fail
    refine (square_any ha hn hc tn hs w2 (hH.below hB2 (Nat.le_refl _)) (by have := LT.out; omega)).mono ?_
    rintro e w3 ⟨rfl, hb3⟩
    have hB3 := hB2.trans (hb3.mono hB2.size)
    clear hB2 hb3
    cases hsq : squareB hs tn with
    | false =>
      clear hsq
      go_wp2_with fail
      go_ret
      exact ⟨rfl, hB3⟩
    | true =>
      have hsq2 : hs.length = ts.length ∧ ∀ h ∈ hs, h.length = ts.length := by
        unfold squareB at hsq
        rw [Bool.and_eq_true, decide_eq_true_eq, List.all_eq_true] at hsq
        have h3 := LT.out.1
        exact ⟨hsq.1.trans h3, fun h hm => (of_decide_eq_true (hsq.2 h hm)).trans h3⟩
      have HSQ := Lib.hid hsq2
      clear hsq hsq2
      have hmm := @run_makeMap Try.prog
      go_upto_region 6 with fail
      refine wp_name ?_
      intro W5 hW5
      have hS5 : SetAt W5 w3.heap.size [] := by rw [hW5]; exact SetAt.new w3
      have hB5 : Below w.heap.size w W5 := by rw [hW5]; exact hB3.alloc hB3.size _
      have hbf : w.heap.size ≤ w3.heap.size := hB3.size
      clear hW5 hB3
      obtain ⟨bf, hbfe⟩ : ∃ bf, w3.heap.size = bf := ⟨_, rfl⟩
      rw [hbfe] at hS5 hbf ⊢
      clear hbfe
      have H40 := Lib.hid h40
      go_wp2_with fail
      refine (clashes_any ha ta hn hc tn tc fr hs ts W5 (hH.below hB5 (Nat.le_refl _)) (hT.below hB5 (Nat.le_refl _)) h12 h40).mono ?_
      rintro e w6 ⟨ca, cc, rfl, hrows, hb6⟩
      have hB6 := hB5.trans (hb6.mono hB5.size)
      have hS6 := hS5.below hb6
      obtain ⟨xs, hxs⟩ : ∃ xs, clashesL hs ts fr = xs := ⟨_, rfl⟩
      have hmem : ∀ x, x ∈ xs ↔ ClashP hs ts fr x := fun x => by rw [← hxs]; exact mem_clashes HSQ.out
      rw [hxs] at hrows ⊢
      have HM := Lib.hid hmem
      have mx := hrows.length.2
      unfold maxLen at mx
      clear hxs hmem hb6 hB5 hS5 h40
      go_wp2_with fail
      go_loopw [55] (fun i wr => ∃ k : Nat, i = .int .i64 k ∧ k ≤ xs.length ∧ (∃ ns, SetAt wr bf ns ∧ ∀ x, x ∈ ns ↔ x ∈ xs.take k) ∧ Below w.heap.size w wr ∧ KeepC w6 wr) (fun i _ => xs.length - (intOf i).toNat)
      case atStart => exact ⟨0, rfl, by omega, ⟨[], hS6, by simp⟩, hB6, KeepC.refl _⟩
      case round =>
        clear hS6 hB6
        obtain ⟨k, rfl, hk, ⟨ns, hS, hm⟩, hB, hK⟩ := hrel
        have HMS := Lib.hid hm
        clear hm
        by_cases hlt : k < xs.length
        · obtain ⟨x, hxk⟩ : ∃ x, xs[k]? = some x := ⟨xs[k], List.getElem?_eq_getElem _⟩
          obtain ⟨b, off, hix, d0, d1, d2, d3, d4⟩ := ch_at (hrows.keepC hK) hxk
          have z := cell_block d0
          have HXK := Lib.hid hxk
          clear hxk
          go_upto_region 9 with fail
          refine wp_name ?_
          intro W7 hW7
          have hb7 : Below wr.heap.size wr W7 := by rw [hW7]; exact (Below.refl _ _).alloc (Nat.le_refl _) _
          have k0 : W7.cell? ⟨wr.heap.size, 0, none⟩ = some (.int .i64 x.1.1) := by rw [hW7]; go_simp
          have k1 : W7.cell? ⟨wr.heap.size, 1, none⟩ = some (.int .i64 x.1.2) := by rw [hW7]; go_simp
          have k2 : W7.cell? ⟨wr.heap.size, 2, none⟩ = some (.int .i64 x.2.1) := by rw [hW7]; go_simp
          have k3 : W7.cell? ⟨wr.heap.size, 3, none⟩ = some (.int .i64 x.2.2.1) := by rw [hW7]; go_simp
          have k4 : W7.cell? ⟨wr.heap.size, 4, none⟩ = some (.int .i64 x.2.2.2) := by rw [hW7]; go_simp
          have zk := cell_block k0
          dsimp only at zk
          clear hW7
          obtain ⟨W8, hu, hS8, hB8, hK8, hz8⟩ := set_put (hS.below hb7) HMS.out hbf (hB.trans (hb7.mono hB.size)) x
          have HS8 := Lib.hid hS8
          have HB8 := Lib.hid hB8
          have HK8 := Lib.hid ((hK.trans (KeepC.below hb7)).trans hK8)
          clear hS8 hB8 hK8 hS hB hK hb7 z d0 d1 d2 d3 d4 hix
          go_wp2_with fail
          go_roundw
          case rel => exact ⟨k + 1, rfl, by omega, by rw [List.take_add_one, HXK.out]; exact HS8.out, HB8.out, HK8.out⟩
          case measure => simp [intOf]; omega
        · have hmF : ∀ x, x ∈ ns ↔ ClashP hs ts fr x := fun x => by
            rw [HMS.out x, List.take_of_length_le (by omega)]
            exact HM.out x
          have HMF := Lib.hid hmF
          clear hmF hK
          go_upto_region 12 with fail
          refine wp_name ?_
          intro W9 hW9
          have hb9 : Below wr.heap.size wr W9 := by rw [hW9]; exact (Below.refl _ _).alloc (Nat.le_refl _) _
          have hF9 : FW w bf wr.heap.size ns [] W9 := by
            refine ⟨hS.below hb9, ⟨[], by rw [hW9]; exact SetAt.new wr, fun _ => Iff.rfl⟩, ?_, hbf, hB.size, hB.trans (hb9.mono hB.size)⟩
            have := hS.lt; omega
          obtain ⟨bw, hbw⟩ : ∃ bw, wr.heap.size = bw := ⟨_, rfl⟩
          rw [hbw] at hF9 ⊢
          clear hW9 hb9 hbw hS hB HMS
          go_wp2_with fail
          obtain ⟨wo, rfl⟩ : ∃ wo : World, wo = wr := ⟨_, rfl⟩
          go_loopw [65] (fun i wr => ∃ l : Nat, i = .int .i64 l ∧ l ≤ tn ∧ FW w bf bw ns ((List.range l).flatMap (wantL hs fr ts)) wr) (fun i _ => tn - (intOf i).toNat)
          case atStart => exact ⟨0, rfl, by omega, hF9⟩
          case round =>
            clear hF9
            obtain ⟨l, rfl, hl, hF⟩ := hrel
            by_cases hltl : l < tn
            · obtain ⟨t, htl⟩ : ∃ t, ts[l]? = some t := ⟨ts[l]'(by have := LT.out.1; omega), List.getElem?_eq_getElem _⟩
              obtain ⟨row, hrl⟩ : ∃ row, hs[l]? = some row := ⟨hs[l]'(by have := HSQ.out.1; have := LT.out.1; omega), List.getElem?_eq_getElem _⟩
              obtain ⟨b, off, hix, d0, d1, d2, tok⟩ := tab_at (hT.below hF.2.2.2.2.2 (Nat.le_refl _)) htl
              have z := cell_block d0
              have tokw := (hT.2 t (List.mem_of_getElem? htl)).2.1
              have hgl := Lib.hid tokw.length.1
              have hg40 := (H40.out t (List.mem_of_getElem? htl)).2
              have hrowl : row.length = tn := (HSQ.out.2 row (List.mem_of_getElem? hrl)).trans LT.out.1.symm
              have HRL := Lib.hid hrowl
              have HTL := Lib.hid htl
              have HHL := Lib.hid hrl
              obtain ⟨hb', ho', ra, rc, hix', e0', rok⟩ := hears_at hH hrl
              have E0 := Lib.hid e0'
              clear htl hrl hrowl tok e0'
              go_upto_region 15 with fail
              refine wp_name ?_
              intro W1 hW1
              have hb1 : Below wr.heap.size wr W1 := by rw [hW1]; exact (Below.refl _ _).alloc (Nat.le_refl _) _
              have s1 : W1.cell? ⟨wr.heap.size, 1, none⟩ = some (.slice t.gA t.gL t.gC) := by rw [hW1]; go_simp
              have z1 := cell_block s1
              dsimp only at z1
              have hF1 := hF.below hb1
              clear hW1 hb1 hF hix d0 d1 d2 z
              go_wp2_with fail
              clear s1 z1
              obtain ⟨wo2, rfl⟩ : ∃ wo2 : World, wo2 = wr := ⟨_, rfl⟩
              go_loopw [73] (fun i wr => ∃ j : Nat, i = .int .i64 j ∧ j ≤ t.gL ∧ FW w bf bw ns ((List.range l).flatMap (wantL hs fr ts) ++ (t.gs.take j).flatMap (wantG row fr l ts)) wr) (fun i _ => t.gL - (intOf i).toNat)
              case atStart => exact ⟨0, rfl, by omega, by simpa using hF1⟩
              case round =>
                clear hF1
                obtain ⟨j, rfl, hj, hF⟩ := hrel
                by_cases hltj : j < t.gL
                · obtain ⟨g, hgk⟩ : ∃ g, t.gs[j]? = some g := ⟨t.gs[j]'(by have := hgl.out; simp at this; omega), List.getElem?_eq_getElem _⟩
                  obtain ⟨gb, go, gix, g0, g1, g2, g3, g4⟩ := gr_at (tokw.below hF.2.2.2.2.2 (Nat.le_refl _)) hgk
                  have HGK := Lib.hid hgk
                  clear hgk
                  go_upto_region 18 with fail
                  refine wp_name ?_
                  intro W2 hW2
                  have hb2 : Below wr.heap.size wr W2 := by rw [hW2]; exact (Below.refl _ _).alloc (Nat.le_refl _) _
                  have k0 : W2.cell? ⟨wr.heap.size, 0, none⟩ = some (.int .i64 g.1.1) := by rw [hW2]; go_simp
                  have k1 : W2.cell? ⟨wr.heap.size, 1, none⟩ = some (.int .i64 g.1.2) := by rw [hW2]; go_simp
                  have k2 : W2.cell? ⟨wr.heap.size, 2, none⟩ = some (.int .i64 g.2.1) := by rw [hW2]; go_simp
                  have k4 : W2.cell? ⟨wr.heap.size, 4, none⟩ = some (.int .i64 g.2.2.2) := by rw [hW2]; go_simp
                  obtain ⟨bg, hbg⟩ : ∃ bg, wr.heap.size = bg := ⟨_, rfl⟩
                  rw [hbg] at k0 k1 k2 k4 ⊢
                  have hF2 := hF.below hb2
                  clear hW2 hb2 hF hbg gix g0 g1 g2 g3 g4
                  go_wp2_with fail
                  obtain ⟨wo3, rfl⟩ : ∃ wo3 : World, wo3 = wr := ⟨_, rfl⟩
                  go_loopw [79] (fun i wr => ∃ c : Nat, i = .int .i64 c ∧ c ≤ tn ∧ FW w bf bw ns ((List.range l).flatMap (wantL hs fr ts) ++ (t.gs.take j).flatMap (wantG row fr l ts) ++ (List.range c).flatMap (wantS row fr l g ts)) wr ∧ KeepC W2 wr) (fun i _ => tn - (intOf i).toNat)
                  case atStart => exact ⟨0, rfl, by omega, by simpa using hF2, KeepC.refl _⟩
                  case round =>
                    clear hF2
                    obtain ⟨c, rfl, hcn, hF, hK⟩ := hrel
                    by_cases hltc : c < tn
                    · obtain ⟨s, hsc⟩ : ∃ s, ts[c]? = some s := ⟨ts[c]'(by have := LT.out.1; omega), List.getElem?_eq_getElem _⟩
                      obtain ⟨y, hyc⟩ : ∃ y, row[c]? = some y := ⟨row[c]'(by have := HRL.out; omega), List.getElem?_eq_getElem _⟩
                      obtain ⟨b, off, hix, d0, d1, d2, tok⟩ := tab_at (hT.below hF.2.2.2.2.2 (Nat.le_refl _)) hsc
                      have z := cell_block d0
                      have suw := (hT.2 s (List.mem_of_getElem? hsc)).1
                      have hul := Lib.hid suw.length.1
                      have hu40 := (H40.out s (List.mem_of_getElem? hsc)).1
                      obtain ⟨bb, ob, bix, q0⟩ := bit_at rok hyc
                      have HSC := Lib.hid hsc
                      have HYC := Lib.hid hyc
                      have Q0 := Lib.hid q0
                      clear hsc hyc tok q0
                      go_upto_region 21 with fail
                      refine wp_name ?_
                      intro W3 hW3
                      have hb3 : Below wr.heap.size wr W3 := by rw [hW3]; exact (Below.refl _ _).alloc (Nat.le_refl _) _
                      have s1 : W3.cell? ⟨wr.heap.size, 0, none⟩ = some (.slice s.uA s.uL s.uC) := by rw [hW3]; go_simp
                      have z1 := cell_block s1
                      dsimp only at z1
                      have hF3 := hF.below hb3
                      have hK3 := hK.trans (KeepC.below hb3)
                      clear hW3 hb3 hF hK hix d0 d1 d2 z
                      go_wp2_with fail
                      clear s1 z1
                      obtain ⟨wo4, rfl⟩ : ∃ wo4 : World, wo4 = wr := ⟨_, rfl⟩
                      go_loopw [87] (fun i wr => ∃ m : Nat, i = .int .i64 m ∧ m ≤ s.uL ∧ FW w bf bw ns ((List.range l).flatMap (wantL hs fr ts) ++ (t.gs.take j).flatMap (wantG row fr l ts) ++ (List.range c).flatMap (wantS row fr l g ts) ++ (s.us.take m).flatMap (wantU row fr l g c)) wr ∧ KeepC W2 wr) (fun i _ => s.uL - (intOf i).toNat)
                      case atStart => exact ⟨0, rfl, by omega, by simpa using hF3, hK3⟩
                      case round =>
                        clear hF3 hK3
                        obtain ⟨m, rfl, hm2, hF, hK⟩ := hrel
                        by_cases hltm : m < s.uL
                        · obtain ⟨u, huk⟩ : ∃ u, s.us[m]? = some u := ⟨s.us[m]'(by have := hul.out; simp at this; omega), List.getElem?_eq_getElem _⟩
                          obtain ⟨ub, uo, uix, u0, u1, u2, u3⟩ := us_at (suw.below hF.2.2.2.2.2 (Nat.le_refl _)) huk
                          have HUK := Lib.hid huk
                          clear huk
                          obtain ⟨Wl, hWl⟩ : ∃ Wl, (List.range l).flatMap (wantL hs fr ts) ++ (t.gs.take j).flatMap (wantG row fr l ts) ++ (List.range c).flatMap (wantS row fr l g ts) = Wl := ⟨_, rfl⟩
                          rw [hWl] at hF ⊢
                          have hnext : (s.us.take (m + 1)).flatMap (wantU row fr l g c) = (s.us.take m).flatMap (wantU row fr l g c) ++ wantU row fr l g c u := by
                            rw [List.take_add_one, HUK.out, List.flatMap_append]
                            simp
                          have HNX := Lib.hid hnext
                          clear hWl hnext
                          go_upto_region 24 with fail
                          refine wp_name ?_
                          intro W4 hW4
                          have hb4 : Below wr.heap.size wr W4 := by rw [hW4]; exact (Below.refl _ _).alloc (Nat.le_refl _) _
                          have v0 : W4.cell? ⟨wr.heap.size, 0, none⟩ = some (.int .i64 u.1.1) := by rw [hW4]; go_simp
                          have v1 : W4.cell? ⟨wr.heap.size, 1, none⟩ = some (.int .i64 u.1.2) := by rw [hW4]; go_simp
                          have zv := cell_block v0
                          dsimp only at zv
                          have hF4 := hF.below hb4
                          have hK4 := hK.trans (KeepC.below hb4)
                          have p0 := hK4 _ _ _ k0
                          have p1 := hK4 _ _ _ k1
                          have p2 := hK4 _ _ _ k2
                          have p4 := hK4 _ _ _ k4
                          have zg := cell_block p0
                          have e0 := cell_on hF4.2.2.2.2.2 E0.out
                          have q0 := cell_on hF4.2.2.2.2.2 Q0.out
                          have ze := cell_block e0
                          have zq := cell_block q0
                          dsimp only at zg ze zq
                          have HF4 := Lib.hid hF4
                          have HK4 := Lib.hid hK4
                          have hle := cl_eql u.1 g.1
                          clear hW4 hb4 hF hK uix u0 u1 u2 u3 hF4 hK4
                          have hno : ∀ (p : Prop), ¬ p → (((c : Int) ≠ l ∧ (c : Int) ≠ g.2.1 ∧ row[c]? = some true ∧ u.1 = g.1 ∧ fr ≤ g.2.2.2) → p) → wantU row fr l g c u = [] := fun p hp hi => if_neg (fun h => hp (hi h))
                          have HNO := Lib.hid hno
                          clear hno
                          have hskip : wantU row fr l g c u = [] → FW w bf bw ns (Wl ++ (s.us.take (m + 1)).flatMap (wantU row fr l g c)) W4 := fun h => by
                            rw [HNX.out, h, List.append_nil]
                            exact HF4.out
                          have HSK := Lib.hid hskip
                          clear hskip
                          cases t1 : ((c : Int) != (l : Int)) with
                          | false =>
                            have HS := Lib.hid (HSK.out (HNO.out _ (fun h : (c : Int) ≠ l => by simp at t1; exact h (by omega)) (fun h => h.1)))
                            as_aux_lemma =>
                              go_wp2_with fail
                              go_roundw
                              case rel => exact ⟨m + 1, rfl, by omega, HS.out, HK4.out⟩
                              case measure => simp [intOf]; omega
                          | true =>
                            have T1 := Lib.hid t1
                            cases t2 : ((c : Int) != g.2.1) with
                            | false =>
                              have HS := Lib.hid (HSK.out (HNO.out _ (fun h : (c : Int) ≠ g.2.1 => by simp at t2; exact h t2) (fun h => h.2.1)))
                              as_aux_lemma =>
                                go_wp2_with fail
                                go_roundw
                                case rel => exact ⟨m + 1, rfl, by omega, HS.out, HK4.out⟩
                                case measure => simp [intOf]; omega
                            | true =>
                              have T2 := Lib.hid t2
                              cases y with
                              | false =>
                                have HS := Lib.hid (HSK.out (HNO.out _ (fun h : row[c]? = some true => by rw [HYC.out] at h; cases h) (fun h => h.2.2.1)))
                                as_aux_lemma =>
                                  go_wp2_with fail
                                  go_roundw
                                  case rel => exact ⟨m + 1, rfl, by omega, HS.out, HK4.out⟩
                                  case measure => simp [intOf]; omega
                              | true =>
                                by_cases t3 : u.1 = g.1
                                case neg =>
                                  have t3d : decide (u.1 = g.1) = false := decide_eq_false t3
                                  have HS := Lib.hid (HSK.out (HNO.out _ t3 (fun h => h.2.2.2.1)))
                                  clear t3
                                  as_aux_lemma =>
                                    go_wp2_with fail
                                    go_roundw
                                    case rel => exact ⟨m + 1, rfl, by omega, HS.out, HK4.out⟩
                                    case measure => simp [intOf]; omega
                                have t3d : decide (u.1 = g.1) = true := decide_eq_true t3
                                have T3 := Lib.hid t3
                                clear t3
                                by_cases t4 : fr ≤ g.2.2.2
                                case neg =>
                                  have t4d : decide (fr ≤ g.2.2.2) = false := decide_eq_false t4
                                  have HS := Lib.hid (HSK.out (HNO.out _ t4 (fun h => h.2.2.2.2)))
                                  clear t4
                                  as_aux_lemma =>
                                    go_wp2_with fail
                                    go_roundw
                                    case rel => exact ⟨m + 1, rfl, by omega, HS.out, HK4.out⟩
                                    case measure => simp [intOf]; omega
                                have t4d : decide (fr ≤ g.2.2.2) = true := decide_eq_true t4
                                obtain ⟨W5', hu, hF5, hK5, hz5⟩ := HF4.out.put (g.1, (l : Int), g.2.1, (c : Int))
                                have HS : Hid (FW w bf bw ns (Wl ++ (s.us.take (m + 1)).flatMap (wantU row fr l g c)) W5') := Lib.hid (by
                                  rw [HNX.out, wantU, if_pos ⟨by have := T1.out; simpa using this, by have := T2.out; simpa using this, HYC.out, T3.out, t4⟩, ← List.append_assoc]
                                  exact hF5)
                                have HK5 := Lib.hid (HK4.out.trans hK5)
                                clear t4 hF5 hK5
                                as_aux_lemma =>
                                  go_wp2_with fail
                                  go_roundw
                                  case rel => exact ⟨m + 1, rfl, by omega, HS.out, HK5.out⟩
                                  case measure => simp [intOf]; omega
                        · have hmu : s.us.take m = s.us := List.take_of_length_le (by have := hul.out; simp at this; omega)
                          have hFc : FW w bf bw ns ((List.range l).flatMap (wantL hs fr ts) ++ (t.gs.take j).flatMap (wantG row fr l ts) ++ (List.range (c + 1)).flatMap (wantS row fr l g ts)) wr := by
                            rw [hmu] at hF
                            rw [List.range_succ, List.flatMap_append, ← List.append_assoc]
                            simpa [wantS, HSC.out] using hF
                          have HFC := Lib.hid hFc
                          clear hmu hFc hF
                          go_wp2_with fail
                          go_roundw
                          case rel => exact ⟨c + 1, rfl, by omega, HFC.out, hK⟩
                          case measure => simp [intOf]; omega
                    · have hcl : c = ts.length := by have := LT.out.1; omega
                      have hFj : FW w bf bw ns ((List.range l).flatMap (wantL hs fr ts) ++ (t.gs.take (j + 1)).flatMap (wantG row fr l ts)) wr := by
                        rw [List.take_add_one, HGK.out, List.flatMap_append, ← List.append_assoc]
                        rw [hcl] at hF
                        simpa [wantG] using hF
                      have HFJ := Lib.hid hFj
                      clear hFj hF hcl
                      go_wp2_with fail
                      go_roundw
                      case rel => exact ⟨j + 1, rfl, by omega, HFJ.out⟩
                      case measure => simp [intOf]; omega
                · have hjg : t.gs.take j = t.gs := List.take_of_length_le (by have := hgl.out; simp at this; omega)
                  have hFl : FW w bf bw ns ((List.range (l + 1)).flatMap (wantL hs fr ts)) wr := by
                    rw [hjg] at hF
                    rw [List.range_succ, List.flatMap_append]
                    simpa [wantL, HTL.out, HHL.out] using hF
                  have HFL := Lib.hid hFl
                  clear hFl hF hjg
                  go_wp2_with fail
                  go_roundw
                  case rel => exact ⟨l + 1, rfl, by omega, HFL.out⟩
                  case measure => simp [intOf]; omega
            · have hll : l = ts.length := by have := LT.out.1; omega
              obtain ⟨hSF, ⟨nsW, hSW, hmW⟩, hne, hbf', hbw', hB⟩ := hF
              have hmW2 : ∀ x, x ∈ nsW ↔ ClashP hs ts fr x := fun x => by
                rw [hmW x, hll]
                exact mem_wantAll hs ts fr x
              obtain ⟨es, ck, hh, hE, hBn, hN, hnd⟩ := hSW
              have hndF : ns.Nodup := by obtain ⟨_, _, _, _, _, _, h⟩ := hSF; exact h
              have hlen : nsW.length = ns.length := nodup_len hnd hndF (fun x => (hmW2 x).trans (HMF.out x).symm)
              have hSW : SetAt wr bw nsW := ⟨es, ck, hh, hE, hBn, hN, hnd⟩
              have hlw := hSW.len
              have hlf := hSF.len
              rw [hlen] at hlw
              obtain ⟨K, hK⟩ : ∃ K, ns.length = K := ⟨_, rfl⟩
              rw [hK] at hlw hlf
              have HMW := Lib.hid hmW2
              have HE := Lib.hid hE
              have HBn := Lib.hid hBn
              have HN' := Lib.hid hN
              clear hK hlen hmW hmW2 hll hE hBn hN hnd hndF
              have hHF : ∀ c, c ∈ nsW → c ∈ ns := fun c hc => (HMF.out c).2 ((HMW.out c).1 hc)
              have HHF := Lib.hid hHF
              clear hHF
              have hrun := run_range44 hh
              go_upto_region 33 with fail
              clear hrun hlw hlf hSW
              refine wp_name ?_
              intro W10 hW10
              have hb10 : Below wr.heap.size wr W10 := by rw [hW10]; exact (Below.refl _ _).alloc (Nat.le_refl _) _
              obtain ⟨r, hr⟩ : ∃ r, wr.heap.size = r := ⟨_, rfl⟩
              have hI10 : ItAt W10 r bw es ck #[] := by
                rw [hW10, ← hr]
                exact ⟨(Below.heap_alloc _ _ _ (Array.getElem?_eq_some_iff.1 hh).1).trans hh, ck, heap_new _ _, Nat.le_refl _⟩
              have hSF10 := hSF.below hb10
              have hB10 := hB.trans (hb10.mono hB.size)
              have hrw : w.heap.size ≤ r := by have := hB.size; omega
              have hbr : bf < r := by have := hSF.lt; omega
              rw [hr]
              clear hW10 hb10 hr hh hSF hB
              obtain ⟨wo, rfl⟩ : ∃ wo : World, wo = wr := ⟨_, rfl⟩
              go_loopw [142] (fun _ wr => (∃ seen, ItAt wr r bw es ck seen) ∧ SetAt wr bf ns ∧ Below w.heap.size w wr) (fun _ wr => leftN es r wr)
              case atStart => exact ⟨⟨_, hI10⟩, hSF10, hB10⟩
              case round =>
                clear hI10 hSF10 hB10
                obtain ⟨⟨seen, hI⟩, hSF, hB⟩ := hrel
                rcases hI.step HE.out HBn.out HN'.out with hover | ⟨c, w', seen', v, hc, hnx, hen, hI', hlt, hbl, hsz, hoth, hkc⟩
                case inr =>
                  simp only [chK] at hnx hen
                  have hSF' := hSF.on (hoth bf (by omega))
                  have hB' := hB.trans (hbl.mono hrw)
                  have HC := Lib.hid (HHF.out c hc)
                  have hlt0 := hI.left
                  have HLT := Lib.hid hlt
                  have HL0 := Lib.hid hlt0
                  clear hc hI hSF hB hoth hbl hkc hlt hlt0 hsz
                  go_upto_region 35 with fail
                  clear hnx hen
                  refine wp_name ?_
                  intro W11 hW11
                  have hb11 : Below w'.heap.size w' W11 := by rw [hW11]; exact (Below.refl _ _).alloc (Nat.le_refl _) _
                  have k0 : W11.cell? ⟨w'.heap.size, 0, none⟩ = some (.int .i64 c.1.1) := by rw [hW11]; go_simp
                  have k1 : W11.cell? ⟨w'.heap.size, 1, none⟩ = some (.int .i64 c.1.2) := by rw [hW11]; go_simp
                  have k2 : W11.cell? ⟨w'.heap.size, 2, none⟩ = some (.int .i64 c.2.1) := by rw [hW11]; go_simp
                  have k3 : W11.cell? ⟨w'.heap.size, 3, none⟩ = some (.int .i64 c.2.2.1) := by rw [hW11]; go_simp
                  have k4 : W11.cell? ⟨w'.heap.size, 4, none⟩ = some (.int .i64 c.2.2.2) := by rw [hW11]; go_simp
                  have zk := cell_block k0
                  dsimp only at zk
                  have hS11 := hSF'.below hb11
                  have hI11 := hI'.below hb11
                  have hlk := hS11.look c
                  rw [decide_eq_true HC.out] at hlk
                  simp only [chK] at hlk
                  have hB11 := hB'.trans (hb11.mono hB'.size)
                  have HM2 : Hid (leftN es r W11 < leftN es r wr) := Lib.hid (by rw [hI11.left, HL0.out]; exact HLT.out)
                  have HS11 := Lib.hid hS11
                  have HI11 := Lib.hid hI11
                  have HB11 := Lib.hid hB11
                  clear hW11 hb11 hSF' hI' hB' hS11 hI11 hB11
                  go_wp2_with fail
                  go_roundw
                  case rel => exact ⟨⟨_, HI11.out⟩, HS11.out, HB11.out⟩
                  case measure => exact HM2.out
                obtain ⟨k, hk, hkn⟩ : ∃ k : Nat, who % (tn : Int) = (k : Int) ∧ k < tn := ⟨(who % (tn : Int)).toNat, by
                  have := Int.emod_nonneg who (b := (tn : Int)) (by omega)
                  omega, by
                  have := Int.emod_nonneg who (b := (tn : Int)) (by omega)
                  have := Int.emod_lt_of_pos who (b := (tn : Int)) (by omega)
                  omega⟩
                have HSFx := Lib.hid hSF
                have HBx := Lib.hid hB
                clear hI hSF hB
                go_upto_region 38 with fail
                clear hover
                simp only [hk]
                have hnt : hn = tn := by have := LH.out.1; have := LT.out.1; have := HSQ.out.1; omega
                have HNT := Lib.hid hnt
                have hHw := hH.below HBx.out (Nat.le_refl _)
                have hTw := hT.below HBx.out (Nat.le_refl _)
                obtain ⟨zs, hzs, hzR, hzr⟩ := hears_parts hHw
                have hzl : zs.length = hn := by
                  have := congrArg List.length hzs
                  rw [List.length_map] at this
                  exact this.trans LH.out.1.symm
                obtain ⟨hbk, hof, rfl, hcl⟩ := rows_cells hzR (by omega)
                rw [hv_flat] at hcl
                obtain ⟨tbk, tof, rfl, tcl⟩ := rows_cells hTw.1 (by omega)
                obtain ⟨n1, hn1⟩ : ∃ n1, (zs.map fun p => Value.slice p.1.1 p.2.length p.1.2) = n1 := ⟨_, rfl⟩
                obtain ⟨n2, hn2⟩ : ∃ n2, (ts.map tbV).flatten = n2 := ⟨_, rfl⟩
                rw [hn1] at hcl
                rw [hn2] at tcl
                have l1 : n1.length = hn * 1 := by rw [← hn1, List.length_map, hzl, Nat.mul_one]
                have l2 : n2.length = tn * 3 := by rw [← hn2, flat_len (k := 3) _ (by intro cs h; obtain ⟨x, _, rfl⟩ := List.mem_map.1 h; rfl), List.length_map]; have := LT.out.1; omega
                have o1 : ∀ u ∈ n1, u.oneCell' = true := fun u hu => by rw [← hn1] at hu; obtain ⟨p, _, rfl⟩ := List.mem_map.1 hu; rfl
                have o2 : ∀ u ∈ n2, u.oneCell' = true := fun u hu => by
                  rw [← hn2] at hu
                  obtain ⟨cs, hcs, hu⟩ := List.mem_flatten.1 hu
                  obtain ⟨t, _, rfl⟩ := List.mem_map.1 hcs
                  simp only [tbV, List.mem_cons, List.not_mem_nil, or_false] at hu
                  rcases hu with rfl | rfl | rfl <;> rfl
                obtain ⟨i49, hi49, hz49, hs49, hb49⟩ := info_parts info49
                obtain ⟨i26, hi26, hz26, hs26, hb26⟩ := info_parts info26
                have HZS := Lib.hid hzs
                have HZR := Lib.hid hzr
                have HZL := Lib.hid hzl
                have HN1 := Lib.hid hn1
                have HN2 := Lib.hid hn2
                have HCL := Lib.hid hcl
                have TCL := Lib.hid tcl
                have HTW := Lib.hid hTw
                have hn12 : hn ≤ 12 := by omega
                have hn0 : 0 < hn := by omega
                have tn0 : 0 < tn := by omega
                have HK := Lib.hid hk
                clear hzs hzR hzr hzl hn1 hn2 hcl tcl hHw hTw hnt hk h0
                go_upto_region 39 with (first
                  | (at_builtin; refine wpList_append_own _ rfl _ _ 40 rfl wr.heap.size 49 i49 (.slice none 0 0) 1 24 Try.underlying40 hi49 hz49 hs49 hb49 rfl (by decide) (.slice (some ⟨wr.heap.size, 0, none⟩) 0 0) 0 [] rfl (World.ownsRow_made _ #[] 0 (Nat.le_refl _) (Nat.zero_le _) rfl) ⟨hbk, hof, none⟩ hn hc n1 rfl l1 (fun j u h => cell_on ((Below.refl _ _).alloc (Nat.le_refl _) _) (HCL.out j u h)) o1 (by unfold maxLen; omega) (by omega) (by simp) ?_; intro v1 wa hown1 hg1 _; have hBa : Below wr.heap.size wr wa := ((Below.refl _ wr).alloc (Nat.le_refl _) _).grown hg1 (by simp) (fun k e => Nat.le_of_eq (Option.some.inj e)); rw [Nat.zero_add, List.nil_append] at hown1; obtain ⟨gL, capL, rfl, hcapL⟩ := owns_pos hown1 hn0; have HG1 := Lib.hid hg1; have OL := Lib.hid hown1; have HBA := Lib.hid hBa; clear hg1 hown1 hBa)
                  | (at_builtin; refine wpList_append_own _ rfl _ _ 41 rfl wa.heap.size 26 i26 (.agg #[.slice none 0 0, .slice none 0 0, .slice none 0 0]) 3 72 Try.underlying41 hi26 hz26 hs26 hb26 rfl (by decide) (.slice (some ⟨wa.heap.size, 0, none⟩) 0 0) 0 [] rfl (World.ownsRow_made _ #[] 0 (Nat.le_refl _) (Nat.zero_le _) rfl) ⟨tbk, tof, none⟩ tn tc n2 rfl l2 (fun j u h => cell_on (HBA.out.alloc HBA.out.size _) (TCL.out j u h)) o2 (by unfold maxLen; omega) (by omega) (by simp) ?_; intro v2 wb hown2 hg2 _; have hBb : Below wr.heap.size wr wb := (HBA.out.alloc HBA.out.size _).grown hg2 (by simp; have := HBA.out.size; omega) (fun k e => Nat.le_trans HBA.out.size (Nat.le_of_eq (Option.some.inj e))); have hownL : wb.ownsRow wr.heap.size 49 1 (.slice (some ⟨gL, 0, none⟩) hn capL) hn n1 := owns_type (OL.out.alloc _) (World.ownsRow_made wa #[] 0 HBA.out.size (Nat.zero_le _) rfl : (wa.alloc (.cells #[] 26)).ownsRow wr.heap.size 26 3 (.slice (some ⟨wa.heap.size, 0, none⟩) 0 0) 0 []) (show (49 : Nat) ≠ 26 from by decide) hg2; rw [Nat.zero_add, List.nil_append] at hown2; obtain ⟨gT, capT, rfl, hcapT⟩ := owns_pos hown2 tn0; have OT := Lib.hid hown2; have OL2 := Lib.hid hownL; have HBB := Lib.hid hBb; clear hg2 hown2 hBb hownL))
                have hgL : gL < wa.heap.size := ((owns_at (i := 0) OL.out (by omega)).2.2.1)
                have hgLw : wr.heap.size ≤ gL := ((owns_at (i := 0) OL.out (by omega)).2.2.2)
                have hgT : wa.heap.size ≤ gT := ((owns_at (i := 0) OT.out (by omega)).2.2.2)
                have hgTb : gT < wb.heap.size := ((owns_at (i := 0) OT.out (by omega)).2.2.1)
                have hix := index_own (T := 40) Try.underlying40 rfl sz49 (g := gL) (n := hn) (cap := capL) (i := k) (by have := HNT.out; omega)
                have htx := index_own (T := 41) Try.underlying41 rfl sz26 (g := gT) (n := tn) (cap := capT) (i := k) (by omega)
                rw [Nat.mul_one] at hix
                have aL := owns_at (i := k) OL2.out (by have := HNT.out; omega)
                obtain ⟨⟨xL, cL, _⟩, fL, zL, _⟩ := aL
                have hkt : k < ts.length := by have := LT.out.1; omega
                have hbfw : bf < wr.heap.size := HSFx.out.lt
                cases deaf with
                | true =>
                  have hmk := mk_bools (n := tn) (by omega)
                  go_upto_region 42 with fail
                  clear hmk
                  refine wp_name ?_
                  intro W15 hW15
                  have hB15 : Below wr.heap.size wr W15 := by rw [hW15]; exact (HBB.out.setCell (by dsimp only; omega) _).alloc (by simp; have := HBB.out.size; omega) _
                  obtain ⟨z', hz'⟩ : ∃ z' : (Option Addr × Nat) × List Bool, ((some ⟨wb.heap.size, 0, none⟩, tn), List.replicate tn false) = z' := ⟨_, rfl⟩
                  have hH2 : HearsOk W15 (.slice (some ⟨gL, 0, none⟩) hn capL) (hs.set k (List.replicate tn false)) := by
                    have h1 := (owns_cell (i := k) (.slice (some ⟨wb.heap.size, 0, none⟩) tn tn) OL2.out).alloc (.cells (Array.replicate tn (.bool false)) 4)
                    rw [← HN1.out] at h1
                    have h2 : ((zs.map fun p => Value.slice p.1.1 p.2.length p.1.2).set k (.slice (some ⟨wb.heap.size, 0, none⟩) tn tn)) = (zs.set k z').map fun p => Value.slice p.1.1 p.2.length p.1.2 := by
                      rw [List.map_set, ← hz', List.length_replicate]
                    rw [h2, ← hW15] at h1
                    have h3 := hears_own h1 (fun p hp => by
                      rcases List.mem_or_eq_of_mem_set hp with h | h
                      · exact (HZR.out p h).below hB15 (Nat.le_refl _)
                      · rw [h, ← hz']
                        have hbm := bools_made (wb.setCell ⟨gL, k, none⟩ (.slice (some ⟨wb.heap.size, 0, none⟩) tn tn)) (n := tn) (by unfold maxLen; omega)
                        have hsz : (wb.setCell ⟨gL, k, none⟩ (.slice (some ⟨wb.heap.size, 0, none⟩) tn tn)).heap.size = wb.heap.size := by simp
                        rw [hsz] at hbm
                        rw [hW15]
                        exact hbm)
                    rw [List.map_set, HZS.out, ← hz'] at h3
                    exact h3
                  have hT2 : TabsOk W15 (.slice (some ⟨gT, 0, none⟩) tn capT) ts := by
                    have h1 := (owns_set (b := gL) (j := k) (u := .slice (some ⟨wb.heap.size, 0, none⟩) tn tn) OT.out hgL).alloc (.cells (Array.replicate tn (.bool false)) 4)
                    rw [← hW15, ← HN2.out] at h1
                    exact tabs_own h1 (fun t ht => (HTW.out.2 t ht).below hB15 (Nat.le_refl _))
                  have h402 : ∀ t ∈ ts, t.uL ≤ 40 ∧ t.gL ≤ 40 := H40.out
                  have hsub : ∀ x ∈ clashesL (hs.set k (List.replicate tn false)) ts fr, x ∈ ns := fun x hx => (HMF.out x).2 (clash_deaf (clash_of_mem hx))
                  obtain ⟨hs2, hhs2⟩ : ∃ hs2, hs.set k (List.replicate tn false) = hs2 := ⟨_, rfl⟩
                  rw [hhs2] at hH2 hsub
                  obtain ⟨ts2, hts2⟩ : ∃ ts2, ts = ts2 := ⟨_, rfl⟩
                  rw [hts2] at hT2 hsub h402
                  have hS15 := HSFx.out.on (hB15.block bf hbfw)
                  have hBw15 := HBx.out.trans (hB15.mono HBx.out.size)
                  have HSUB := Lib.hid hsub
                  clear hW15 hB15 hsub hts2 hhs2 cL fL zL hix htx
                  go_wp2_with fail
                  refine (clashes_any (some ⟨gL, 0, none⟩) (some ⟨gT, 0, none⟩) hn capL tn capT fr hs2 ts2 W15 hH2 hT2 h12 h402).mono ?_
                  rintro e w16 ⟨ca2, cc2, rfl, hrows2, hb16⟩
                  have hS16 := hS15.below hb16
                  have hB16 := hBw15.trans (hb16.mono hBw15.size)
                  obtain ⟨ys, hys⟩ : ∃ ys, clashesL hs2 ts2 fr = ys := ⟨_, rfl⟩
                  rw [hys] at hrows2 HSUB ⊢
                  have my := hrows2.length.2
                  unfold maxLen at my
                  clear hys hS15 hBw15 hb16 hH2 hT2 h402
                  go_wp2_with fail
                  go_loopw [174] (fun i wr => ∃ q : Nat, i = .int .i64 q ∧ q ≤ ys.length ∧ SetAt wr bf ns ∧ Below w.heap.size w wr ∧ Below w16.heap.size w16 wr) (fun i _ => ys.length - (intOf i).toNat)
                  case atStart => exact ⟨0, rfl, by omega, hS16, hB16, Below.refl _ _⟩
                  case round =>
                    clear hS16 hB16
                    obtain ⟨q, rfl, hq, hS, hB, hb⟩ := hrel
                    by_cases hltq : q < ys.length
                    · obtain ⟨c, hcq⟩ : ∃ c, ys[q]? = some c := ⟨ys[q], List.getElem?_eq_getElem _⟩
                      obtain ⟨b, off, hix, d0, d1, d2, d3, d4⟩ := ch_at (hrows2.below hb (Nat.le_refl _)) hcq
                      have z := cell_block d0
                      have HC := Lib.hid (HSUB.out c (List.mem_of_getElem? hcq))
                      clear hcq
                      go_upto_region 45 with fail
                      refine wp_name ?_
                      intro W17 hW17
                      have hb17 : Below wr.heap.size wr W17 := by rw [hW17]; exact (Below.refl _ _).alloc (Nat.le_refl _) _
                      have k0 : W17.cell? ⟨wr.heap.size, 0, none⟩ = some (.int .i64 c.1.1) := by rw [hW17]; go_simp
                      have k1 : W17.cell? ⟨wr.heap.size, 1, none⟩ = some (.int .i64 c.1.2) := by rw [hW17]; go_simp
                      have k2 : W17.cell? ⟨wr.heap.size, 2, none⟩ = some (.int .i64 c.2.1) := by rw [hW17]; go_simp
                      have k3 : W17.cell? ⟨wr.heap.size, 3, none⟩ = some (.int .i64 c.2.2.1) := by rw [hW17]; go_simp
                      have k4 : W17.cell? ⟨wr.heap.size, 4, none⟩ = some (.int .i64 c.2.2.2) := by rw [hW17]; go_simp
                      have zk := cell_block k0
                      dsimp only at zk
                      have hS17 := hS.below hb17
                      have hB17 := hB.trans (hb17.mono hB.size)
                      have hb17' := hb.trans (hb17.mono hb.size)
                      have hlk := hS17.look c
                      rw [decide_eq_true HC.out] at hlk
                      simp only [chK] at hlk
                      have HS17 := Lib.hid hS17
                      have HB17 := Lib.hid hB17
                      have HB17' := Lib.hid hb17'
                      clear hW17 hb17 hS17 hB17 hb17' hS hB hb hix d0 d1 d2 d3 d4 z
                      go_wp2_with fail
                      go_roundw
                      case rel => exact ⟨q + 1, rfl, by omega, HS17.out, HB17.out, HB17'.out⟩
                      case measure => simp [intOf]; omega
                    · go_wp2_with fail
                      go_ret
                      exact ⟨rfl, hB⟩
                | false =>
                  have aT0 := owns_at (i := k * 3) OT.out (by omega)
                  have aT1 := owns_at (i := k * 3 + 1) OT.out (by omega)
                  have aT2 := owns_at (i := k * 3 + 2) OT.out (by omega)
                  obtain ⟨⟨y0, cT0, _⟩, fT0, zT, _⟩ := aT0
                  obtain ⟨⟨y1, cT1, _⟩, fT1, _, _⟩ := aT1
                  obtain ⟨⟨y2, cT2, _⟩, fT2, _, _⟩ := aT2
                  go_upto_region 42 with fail
                  refine wp_name ?_
                  intro W15 hW15
                  have hB15 : Below wr.heap.size wr W15 := by rw [hW15]; exact (((HBB.out.setCell (by dsimp only; omega) _).setCell (by dsimp only; omega) _).setCell (by dsimp only; omega) _)
                  have hH2 : HearsOk W15 (.slice (some ⟨gL, 0, none⟩) hn capL) hs := by
                    have h1 := owns_setne (b := gT) (j := k * 3 + 2) (u := .slice none 0 0) (owns_setne (b := gT) (j := k * 3 + 1) (u := .slice none 0 0) (owns_setne (b := gT) (j := k * 3) (u := .slice none 0 0) OL2.out (by omega)) (by omega)) (by omega)
                    rw [← hW15, ← HN1.out] at h1
                    have h3 := hears_own h1 (fun p hp => (HZR.out p hp).below hB15 (Nat.le_refl _))
                    rw [HZS.out] at h3
                    exact h3
                  have hT2 : TabsOk W15 (.slice (some ⟨gT, 0, none⟩) tn capT) (ts.set k tabZ) := by
                    have h1 := owns_cell (i := k * 3 + 2) (.slice none 0 0) (owns_cell (i := k * 3 + 1) (.slice none 0 0) (owns_cell (i := k * 3) (.slice none 0 0) OT.out))
                    rw [← hW15, ← HN2.out, flat_set3 (.slice none 0 0) (.slice none 0 0) (.slice none 0 0) ts k tabZ hkt rfl] at h1
                    refine tabs_own h1 (fun t ht => ?_)
                    rcases List.mem_or_eq_of_mem_set ht with h | h
                    · exact (HTW.out.2 t h).below hB15 (Nat.le_refl _)
                    · rw [h]; exact tabZ_ok _
                  have h402 : ∀ t ∈ ts.set k tabZ, t.uL ≤ 40 ∧ t.gL ≤ 40 := fun t ht => by
                    rcases List.mem_or_eq_of_mem_set ht with h | h
                    · exact H40.out t h
                    · rw [h]; simp [tabZ]
                  have hsub : ∀ x ∈ clashesL hs (ts.set k tabZ) fr, x ∈ ns := fun x hx => (HMF.out x).2 (clash_drop (clash_of_mem hx))
                  obtain ⟨ts2, hts2⟩ : ∃ ts2, ts.set k tabZ = ts2 := ⟨_, rfl⟩
                  rw [hts2] at hT2 hsub h402
                  have hS15 := HSFx.out.on (hB15.block bf hbfw)
                  have hBw15 := HBx.out.trans (hB15.mono HBx.out.size)
                  have HSUB := Lib.hid hsub
                  clear hW15 hB15 hsub hts2 cL fL zL hix htx cT0 cT1 cT2 fT0 fT1 fT2 zT
                  go_wp2_with fail
                  refine (clashes_any (some ⟨gL, 0, none⟩) (some ⟨gT, 0, none⟩) hn capL tn capT fr hs ts2 W15 hH2 hT2 h12 h402).mono ?_
                  rintro e w16 ⟨ca2, cc2, rfl, hrows2, hb16⟩
                  have hS16 := hS15.below hb16
                  have hB16 := hBw15.trans (hb16.mono hBw15.size)
                  obtain ⟨ys, hys⟩ : ∃ ys, clashesL hs ts2 fr = ys := ⟨_, rfl⟩
                  rw [hys] at hrows2 HSUB ⊢
                  have my := hrows2.length.2
                  unfold maxLen at my
                  clear hys hS15 hBw15 hb16 hH2 hT2 h402
                  go_wp2_with fail
                  go_loopw [174] (fun i wr => ∃ q : Nat, i = .int .i64 q ∧ q ≤ ys.length ∧ SetAt wr bf ns ∧ Below w.heap.size w wr ∧ Below w16.heap.size w16 wr) (fun i _ => ys.length - (intOf i).toNat)
                  case atStart => exact ⟨0, rfl, by omega, hS16, hB16, Below.refl _ _⟩
                  case round =>
                    clear hS16 hB16
                    obtain ⟨q, rfl, hq, hS, hB, hb⟩ := hrel
                    by_cases hltq : q < ys.length
                    · obtain ⟨c, hcq⟩ : ∃ c, ys[q]? = some c := ⟨ys[q], List.getElem?_eq_getElem _⟩
                      obtain ⟨b, off, hix, d0, d1, d2, d3, d4⟩ := ch_at (hrows2.below hb (Nat.le_refl _)) hcq
                      have z := cell_block d0
                      have HC := Lib.hid (HSUB.out c (List.mem_of_getElem? hcq))
                      clear hcq
                      go_upto_region 45 with fail
                      refine wp_name ?_
                      intro W17 hW17
                      have hb17 : Below wr.heap.size wr W17 := by rw [hW17]; exact (Below.refl _ _).alloc (Nat.le_refl _) _
                      have k0 : W17.cell? ⟨wr.heap.size, 0, none⟩ = some (.int .i64 c.1.1) := by rw [hW17]; go_simp
                      have k1 : W17.cell? ⟨wr.heap.size, 1, none⟩ = some (.int .i64 c.1.2) := by rw [hW17]; go_simp
                      have k2 : W17.cell? ⟨wr.heap.size, 2, none⟩ = some (.int .i64 c.2.1) := by rw [hW17]; go_simp
                      have k3 : W17.cell? ⟨wr.heap.size, 3, none⟩ = some (.int .i64 c.2.2.1) := by rw [hW17]; go_simp
                      have k4 : W17.cell? ⟨wr.heap.size, 4, none⟩ = some (.int .i64 c.2.2.2) := by rw [hW17]; go_simp
                      have zk := cell_block k0
                      dsimp only at zk
                      have hS17 := hS.below hb17
                      have hB17 := hB.trans (hb17.mono hB.size)
                      have hb17' := hb.trans (hb17.mono hb.size)
                      have hlk := hS17.look c
                      rw [decide_eq_true HC.out] at hlk
                      simp only [chK] at hlk
                      have HS17 := Lib.hid hS17
                      have HB17 := Lib.hid hB17
                      have HB17' := Lib.hid hb17'
                      clear hW17 hb17 hS17 hB17 hb17' hS hB hb hix d0 d1 d2 d3 d4 z
                      go_wp2_with fail
                      go_roundw
                      case rel => exact ⟨q + 1, rfl, by omega, HS17.out, HB17.out, HB17'.out⟩
                      case measure => simp [intOf]; omega
                    · go_wp2_with fail
                      go_ret
                      exact ⟨rfl, hB⟩

end Go.Proofs.Ytadiocpcpjbjpaa
