import Derived.Test.YtadiocpcpjbjpaaN
namespace Go.Proofs.Ytadiocpcpjbjpaa
open Go.RowKit

/-- A table as a value. -/
def tbA (t : Tb) : Value := .agg #[.slice t.uA t.uL t.uC, .slice t.gA t.gL t.gC, .slice t.kA t.kL t.kC]
/-- What a table reads as. -/
def Tb.same (t t' : Tb) : Bool := decide (t.us = t'.us) && decide (t.gs = t'.gs) && decide (t.ks = t'.ks)

set_option maxRecDepth 100000 in
set_option maxHeartbeats 1000000 in
theorem same_any (s t : Tb) (w : World) (hs : TbOk w s) (ht : TbOk w t) :
    Calls Try.prog 18 #[.agg #[.slice s.uA s.uL s.uC, .slice s.gA s.gL s.gC, .slice s.kA s.kL s.kC], .agg #[.slice t.uA t.uL t.uC, .slice t.gA t.gL t.gC, .slice t.kA t.kL t.kC]] w fun e w' => e = .returned (.bool (s.same t)) ∧ Below w.heap.size w w' := by
  obtain ⟨hs1, hs2, hs3⟩ := hs
  obtain ⟨ht1, ht2, ht3⟩ := ht
  have hl : s.uL = s.us.length ∧ s.gL = s.gs.length ∧ s.kL = s.ks.length ∧ t.uL = t.us.length ∧ t.gL = t.gs.length ∧ t.kL = t.ks.length ∧ s.uL ≤ maxLen ∧ s.gL ≤ maxLen ∧ s.kL ≤ maxLen := by
    have := hs1.length; have := hs2.length; have := hs3.length; have := ht1.length; have := ht2.length; have := ht3.length
    simp only [List.length_map] at *
    omega
  unfold maxLen at hl
  obtain ⟨l1, l2, l3, l4, l5, l6, m1, m2, m3⟩ := hl
  have L1 := Lib.hid l1
  have L2 := Lib.hid l2
  have L3 := Lib.hid l3
  have L4 := Lib.hid l4
  have L5 := Lib.hid l5
  have L6 := Lib.hid l6
  clear l1 l2 l3 l4 l5 l6
  have hne : (s.uL ≠ t.uL ∨ s.gL ≠ t.gL ∨ s.kL ≠ t.kL) → s.same t = false := by
    intro h
    have := L1.out; have := L2.out; have := L3.out; have := L4.out; have := L5.out; have := L6.out
    simp only [Tb.same, Bool.and_eq_false_iff, decide_eq_false_iff_not]
    rcases h with h | h | h
    · exact .inl (.inl (fun e => h (by have := congrArg List.length e; omega)))
    · exact .inl (.inr (fun e => h (by have := congrArg List.length e; omega)))
    · exact .inr (fun e => h (by have := congrArg List.length e; omega))
  have HNE := Lib.hid hne
  clear hne
  go_enter Try.func18, Try.ntmps18
  by_cases h1 : s.uL = t.uL
  case neg =>
    have hne1 : ((s.uL : Int) != (t.uL : Int)) = true := by simpa using fun e => h1 (by omega)
    have HD := Lib.hid (HNE.out (.inl h1))
    clear h1
    go_wp2_with fail
    go_ret
    exact ⟨ret_bool HD.out.symm, ((Below.refl _ _).alloc (Nat.le_refl _) _).alloc (by simp) _⟩
  by_cases h2 : s.gL = t.gL
  case neg =>
    have hne1 : ((s.uL : Int) != (t.uL : Int)) = false := by simp [h1]
    have hne2 : ((s.gL : Int) != (t.gL : Int)) = true := by simpa using fun e => h2 (by omega)
    have HD := Lib.hid (HNE.out (.inr (.inl h2)))
    clear h1 h2
    go_wp2_with fail
    go_ret
    exact ⟨ret_bool HD.out.symm, ((Below.refl _ _).alloc (Nat.le_refl _) _).alloc (by simp) _⟩
  by_cases h3 : s.kL = t.kL
  case neg =>
    have hne1 : ((s.uL : Int) != (t.uL : Int)) = false := by simp [h1]
    have hne2 : ((s.gL : Int) != (t.gL : Int)) = false := by simp [h2]
    have hne3 : ((s.kL : Int) != (t.kL : Int)) = true := by simpa using fun e => h3 (by omega)
    have HD := Lib.hid (HNE.out (.inr (.inr h3)))
    clear h1 h2 h3
    go_wp2_with fail
    go_ret
    exact ⟨ret_bool HD.out.symm, ((Below.refl _ _).alloc (Nat.le_refl _) _).alloc (by simp) _⟩
  have hne1 : ((s.uL : Int) != (t.uL : Int)) = false := by simp [h1]
  have hne2 : ((s.gL : Int) != (t.gL : Int)) = false := by simp [h2]
  have hne3 : ((s.kL : Int) != (t.kL : Int)) = false := by simp [h3]
  have H1 := Lib.hid h1
  have H2 := Lib.hid h2
  have H3 := Lib.hid h3
  clear h1 h2 h3
  go_wp2_with fail
  refine wp_name ?_
  intro W0 hW0
  have zz : w.heap.size + 1 < W0.heap.size := by rw [hW0]; simp
  have hB0 : Below w.heap.size w W0 := by rw [hW0]; exact ((Below.refl _ _).alloc (Nat.le_refl _) _).alloc (by simp) _
  have C0 : Hid (W0.cell? ⟨w.heap.size, 0, none⟩ = some (.slice s.uA s.uL s.uC)) := Lib.hid (by rw [hW0]; go_simp)
  have Q0 : Hid (W0.cell? ⟨w.heap.size + 1, 0, none⟩ = some (.slice t.uA t.uL t.uC)) := Lib.hid (by rw [hW0]; go_simp)
  have C1 : Hid (W0.cell? ⟨w.heap.size, 1, none⟩ = some (.slice s.gA s.gL s.gC)) := Lib.hid (by rw [hW0]; go_simp)
  have Q1 : Hid (W0.cell? ⟨w.heap.size + 1, 1, none⟩ = some (.slice t.gA t.gL t.gC)) := Lib.hid (by rw [hW0]; go_simp)
  have C2 : Hid (W0.cell? ⟨w.heap.size, 2, none⟩ = some (.slice s.kA s.kL s.kC)) := Lib.hid (by rw [hW0]; go_simp)
  have Q2 : Hid (W0.cell? ⟨w.heap.size + 1, 2, none⟩ = some (.slice t.kA t.kL t.kC)) := Lib.hid (by rw [hW0]; go_simp)
  clear hW0
  go_loopw [5] (fun i wr => ∃ k : Nat, i = .int .i64 k ∧ k ≤ s.uL ∧ s.us.take k = t.us.take k ∧ Below W0.heap.size W0 wr) (fun i _ => s.uL - (intOf i).toNat)
  case atStart => exact ⟨0, rfl, by omega, by simp, Below.refl _ _⟩
  case round =>
    obtain ⟨k, rfl, hk, hx, hb⟩ := hrel
    have z0 : w.heap.size < wr.heap.size := by have := hb.size; omega
    have z1 : w.heap.size + 1 < wr.heap.size := by have := hb.size; omega
    have hcc := (bcell hb).1
    have c0 := (hcc w.heap.size 0 (by omega)).trans C0.out
    have q0 := (hcc (w.heap.size + 1) 0 (by omega)).trans Q0.out
    have c1 := (hcc w.heap.size 1 (by omega)).trans C1.out
    have q1 := (hcc (w.heap.size + 1) 1 (by omega)).trans Q1.out
    have c2 := (hcc w.heap.size 2 (by omega)).trans C2.out
    have q2 := (hcc (w.heap.size + 1) 2 (by omega)).trans Q2.out
    clear hcc
    by_cases hlt : k < s.uL
    · obtain ⟨x, hxk⟩ : ∃ x, s.us[k]? = some x := ⟨s.us[k]'(by have := L1.out; omega), List.getElem?_eq_getElem _⟩
      obtain ⟨y, hyk⟩ : ∃ y, t.us[k]? = some y := ⟨t.us[k]'(by have := L1.out; have := L4.out; have := H1.out; omega), List.getElem?_eq_getElem _⟩
      obtain ⟨b, off, hix, d0, d1, d2, d3⟩ := us_at (hs1.below (hB0.trans (hb.mono hB0.size)) (Nat.le_refl _)) hxk
      obtain ⟨b', off', hix', e0, e1, e2, e3⟩ := us_at (ht1.below (hB0.trans (hb.mono hB0.size)) (Nat.le_refl _)) hyk
      have z := cell_block d0
      have z' := cell_block e0
      have he := us_neq x y
      by_cases hxy : x = y
      · have hd : decide (x = y) = true := decide_eq_true hxy
        have HX := Lib.hid (take_succ_eq hx hxk (hxy ▸ hyk))
        clear hx hxk hyk hxy
        go_wp2_with fail
        go_quiet (fail)
        go_wp2_with fail
        go_roundw
        case rel => exact ⟨k + 1, rfl, by omega, HX.out, below_drewN hb _⟩
        case measure => simp [intOf]; omega
      · have hd : decide (x = y) = false := decide_eq_false hxy
        have HX := Lib.hid (ne_of_at hxk hyk hxy)
        clear hx hxk hyk hxy
        go_wp2_with fail
        go_quiet (fail)
        go_wp2_with fail
        go_ret
        exact ⟨ret_bool (by simp [Tb.same, HX.out]), below_drewN (hB0.trans (hb.mono hB0.size)) _⟩
    · have HX1 := Lib.hid (take_all_eq hx (by have := L1.out; omega) (by have := L4.out; have := H1.out; omega))
      clear hx
      go_wp2_with fail
      clear z0 z1 c0 c1 c2 q0 q1 q2
      obtain ⟨wo, rfl⟩ : ∃ wo : World, wo = wr := ⟨_, rfl⟩
      go_loopw [6] (fun i wr => ∃ k : Nat, i = .int .i64 k ∧ k ≤ s.gL ∧ s.gs.take k = t.gs.take k ∧ Below W0.heap.size W0 wr) (fun i _ => s.gL - (intOf i).toNat)
      case atStart => exact ⟨0, rfl, by omega, by simp, hb⟩
      case round =>
        clear hb
        obtain ⟨k, rfl, hk, hx, hb⟩ := hrel
        have z0 : w.heap.size < wr.heap.size := by have := hb.size; omega
        have z1 : w.heap.size + 1 < wr.heap.size := by have := hb.size; omega
        have hcc := (bcell hb).1
        have c0 := (hcc w.heap.size 0 (by omega)).trans C0.out
        have q0 := (hcc (w.heap.size + 1) 0 (by omega)).trans Q0.out
        have c1 := (hcc w.heap.size 1 (by omega)).trans C1.out
        have q1 := (hcc (w.heap.size + 1) 1 (by omega)).trans Q1.out
        have c2 := (hcc w.heap.size 2 (by omega)).trans C2.out
        have q2 := (hcc (w.heap.size + 1) 2 (by omega)).trans Q2.out
        clear hcc
        by_cases hlt : k < s.gL
        · obtain ⟨x, hxk⟩ : ∃ x, s.gs[k]? = some x := ⟨s.gs[k]'(by have := L2.out; omega), List.getElem?_eq_getElem _⟩
          obtain ⟨y, hyk⟩ : ∃ y, t.gs[k]? = some y := ⟨t.gs[k]'(by have := L2.out; have := L5.out; have := H2.out; omega), List.getElem?_eq_getElem _⟩
          obtain ⟨b, off, hix, d0, d1, d2, d3, d4⟩ := gr_at (hs2.below (hB0.trans (hb.mono hB0.size)) (Nat.le_refl _)) hxk
          obtain ⟨b', off', hix', e0, e1, e2, e3, e4⟩ := gr_at (ht2.below (hB0.trans (hb.mono hB0.size)) (Nat.le_refl _)) hyk
          have z := cell_block d0
          have z' := cell_block e0
          have he := gr_neq x y
          by_cases hxy : x = y
          · have hd : decide (x = y) = true := decide_eq_true hxy
            have HX := Lib.hid (take_succ_eq hx hxk (hxy ▸ hyk))
            clear hx hxk hyk hxy
            go_wp2_with fail
            go_quiet (fail)
            go_wp2_with fail
            go_roundw
            case rel => exact ⟨k + 1, rfl, by omega, HX.out, below_drewN hb _⟩
            case measure => simp [intOf]; omega
          · have hd : decide (x = y) = false := decide_eq_false hxy
            have HX := Lib.hid (ne_of_at hxk hyk hxy)
            clear hx hxk hyk hxy
            go_wp2_with fail
            go_quiet (fail)
            go_wp2_with fail
            go_ret
            exact ⟨ret_bool (by simp [Tb.same, HX.out]), below_drewN (hB0.trans (hb.mono hB0.size)) _⟩
        · have HX2 := Lib.hid (take_all_eq hx (by have := L2.out; omega) (by have := L5.out; have := H2.out; omega))
          clear hx
          go_wp2_with fail
          clear z0 z1 c0 c1 c2 q0 q1 q2
          obtain ⟨wo, rfl⟩ : ∃ wo : World, wo = wr := ⟨_, rfl⟩
          go_loopw [7] (fun i wr => ∃ k : Nat, i = .int .i64 k ∧ k ≤ s.kL ∧ s.ks.take k = t.ks.take k ∧ Below W0.heap.size W0 wr) (fun i _ => s.kL - (intOf i).toNat)
          case atStart => exact ⟨0, rfl, by omega, by simp, hb⟩
          case round =>
            clear hb
            obtain ⟨k, rfl, hk, hx, hb⟩ := hrel
            have z0 : w.heap.size < wr.heap.size := by have := hb.size; omega
            have z1 : w.heap.size + 1 < wr.heap.size := by have := hb.size; omega
            have hcc := (bcell hb).1
            have c0 := (hcc w.heap.size 0 (by omega)).trans C0.out
            have q0 := (hcc (w.heap.size + 1) 0 (by omega)).trans Q0.out
            have c1 := (hcc w.heap.size 1 (by omega)).trans C1.out
            have q1 := (hcc (w.heap.size + 1) 1 (by omega)).trans Q1.out
            have c2 := (hcc w.heap.size 2 (by omega)).trans C2.out
            have q2 := (hcc (w.heap.size + 1) 2 (by omega)).trans Q2.out
            clear hcc
            by_cases hlt : k < s.kL
            · obtain ⟨x, hxk⟩ : ∃ x, s.ks[k]? = some x := ⟨s.ks[k]'(by have := L3.out; omega), List.getElem?_eq_getElem _⟩
              obtain ⟨y, hyk⟩ : ∃ y, t.ks[k]? = some y := ⟨t.ks[k]'(by have := L3.out; have := L6.out; have := H3.out; omega), List.getElem?_eq_getElem _⟩
              obtain ⟨b, off, hix, d0, d1, d2⟩ := ak_at (hs3.below (hB0.trans (hb.mono hB0.size)) (Nat.le_refl _)) hxk
              obtain ⟨b', off', hix', e0, e1, e2⟩ := ak_at (ht3.below (hB0.trans (hb.mono hB0.size)) (Nat.le_refl _)) hyk
              have z := cell_block d0
              have z' := cell_block e0
              have he := ak_neq x y
              by_cases hxy : x = y
              · have hd : decide (x = y) = true := decide_eq_true hxy
                have HX := Lib.hid (take_succ_eq hx hxk (hxy ▸ hyk))
                clear hx hxk hyk hxy
                go_wp2_with fail
                go_quiet (fail)
                go_wp2_with fail
                go_roundw
                case rel => exact ⟨k + 1, rfl, by omega, HX.out, below_drewN hb _⟩
                case measure => simp [intOf]; omega
              · have hd : decide (x = y) = false := decide_eq_false hxy
                have HX := Lib.hid (ne_of_at hxk hyk hxy)
                clear hx hxk hyk hxy
                go_wp2_with fail
                go_quiet (fail)
                go_wp2_with fail
                go_ret
                exact ⟨ret_bool (by simp [Tb.same, HX.out]), below_drewN (hB0.trans (hb.mono hB0.size)) _⟩
            · have HX3 := Lib.hid (take_all_eq hx (by have := L3.out; omega) (by have := L6.out; have := H3.out; omega))
              clear hx
              go_wp2_with fail
              go_ret
              exact ⟨ret_bool (by simp [Tb.same, HX1.out, HX2.out, HX3.out]), hB0.trans (hb.mono hB0.size)⟩


end Go.Proofs.Ytadiocpcpjbjpaa
