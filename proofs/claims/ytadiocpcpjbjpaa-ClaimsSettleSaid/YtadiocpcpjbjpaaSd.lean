import Derived.Test.YtadiocpcpjbjpaaSc
import Derived.Test.YtadiocpcpjbjpaaOb
namespace Go.Proofs.Ytadiocpcpjbjpaa
open Go.RowKit

/-! ### What a node hears of all others -/
def heardC (row : List Bool) (ts : List Tb) (fr : Int) (c : Nat) : List Nr := if row[c]? = some true then (match ts[c]? with | some t => [beaconN c fr t] | none => []) else []
def heardL (row : List Bool) (ts : List Tb) (fr : Int) (k : Nat) : List Nr := (List.range k).flatMap (heardC row ts fr)

theorem heardL_succ {row : List Bool} {ts : List Tb} {fr : Int} {k : Nat} : heardL row ts fr (k + 1) = heardL row ts fr k ++ heardC row ts fr k := by
  simp [heardL, List.range_succ, List.flatMap_append]
theorem heardL_len {row : List Bool} {ts : List Tb} {fr : Int} : ∀ {k : Nat}, (heardL row ts fr k).length ≤ k
  | 0 => by simp [heardL]
  | k + 1 => by
    rw [heardL_succ, List.length_append]
    have := heardL_len (row := row) (ts := ts) (fr := fr) (k := k)
    have h2 : (heardC row ts fr k).length ≤ 1 := by
      unfold heardC
      split
      · split <;> simp
      · simp
    omega
theorem heardL_mem {row : List Bool} {ts : List Tb} {fr : Int} {k c : Nat} {t : Tb} (hc : c < k) (hr : row[c]? = some true) (ht : ts[c]? = some t) : beaconN c fr t ∈ heardL row ts fr k :=
  List.mem_flatMap.2 ⟨c, List.mem_range.2 hc, by unfold heardC; rw [if_pos hr, ht]; exact List.mem_singleton.2 rfl⟩
theorem heardL_ok {row : List Bool} {ts : List Tb} {fr : Int} {k : Nat} {x : Nr} (h : x ∈ heardL row ts fr k) : ∃ (c : Nat) (t : Tb), ts[c]? = some t ∧ x = beaconN c fr t := by
  obtain ⟨c, _, h⟩ := List.mem_flatMap.1 h
  unfold heardC at h
  split at h
  · cases ht : ts[c]? with
    | none => rw [ht] at h; cases h
    | some t => rw [ht] at h; exact ⟨c, t, ht, List.mem_singleton.1 h⟩
  · cases h

set_option maxRecDepth 100000 in
set_option maxHeartbeats 4000000 in
theorem heard_any (ha : Option Addr) (hn hc : Nat) (hs : List (List Bool)) (ta : Option Addr) (tn tc : Nat) (ts : List Tb) (me : Nat) (fr : Int) (row : List Bool) (w : World) (hH : HearsOk w (.slice ha hn hc) hs) (hT : TabsOk w (.slice ta tn tc) ts)
    (hrow : hs[me]? = some row) (hrl : row.length = tn) (h12 : tn ≤ 12) :
    Calls Try.prog 23 #[.slice ha hn hc, .slice ta tn tc, .int .i64 (me : Int), .int .i64 fr] w fun e w' => ∃ a cap, e = .returned (.slice a (heardL row ts fr tn).length cap) ∧ NearOk w' (.slice a (heardL row ts fr tn).length cap) (heardL row ts fr tn) ∧ Below w.heap.size w w' := by
  have LT := Lib.hid hT.length
  obtain ⟨b', off', ra, rc, hix', e0, rok⟩ := hears_at hH hrow
  have HRL := Lib.hid hrl
  have E0 := Lib.hid e0
  clear hrow hrl e0
  go_enter Try.func23, Try.ntmps23
  go_wp2_with fail
  go_loopw [9, 13] (fun v i wr => ∃ (k : Nat) (out : List Nr) (ag : Option Addr) (cg : Nat), i = .int .i64 k ∧ k ≤ tn ∧ out = heardL row ts fr k ∧ v = .slice ag out.length cg ∧ wr.ownsRow w.heap.size 71 31 (.slice ag out.length cg) out.length (out.map nrV).flatten ∧ Below w.heap.size w wr) (fun _ i _ => tn - (intOf i).toNat)
  case atStart => exact ⟨0, [], none, 0, rfl, by omega, rfl, rfl, World.ownsRow_nil _ _ _ _, Below.refl _ _⟩
  case round =>
    obtain ⟨k, out, ag, cg, rfl, hk, hout, rfl, own, hB⟩ := hrel
    have HO := Lib.hid hout
    have hol : out.length ≤ k := by rw [hout]; exact heardL_len
    clear hout
    by_cases hlt : k < tn
    · obtain ⟨y, hy⟩ : ∃ y, row[k]? = some y := ⟨row[k]'(by have := HRL.out; omega), List.getElem?_eq_getElem _⟩
      obtain ⟨t, htk⟩ : ∃ t, ts[k]? = some t := ⟨ts[k]'(by have := LT.out.1; omega), List.getElem?_eq_getElem _⟩
      obtain ⟨bb, ob, bix, q0⟩ := bit_at (rok.below hB (Nat.le_refl _)) hy
      have e0 := cell_on hB E0.out
      have ze := cell_block e0
      have zq := cell_block q0
      dsimp only at ze zq
      obtain ⟨tb, ot, tix, v0, v1, v2, _⟩ := tab_at (hT.below hB (Nat.le_refl _)) htk
      have zv := cell_block v0
      dsimp only at zv
      cases y with
      | false =>
        have HN : Hid (out = heardL row ts fr (k + 1)) := Lib.hid (by rw [heardL_succ, heardC, hy, if_neg (by simp), List.append_nil]; exact HO.out)
        clear hy htk
        go_wp2_with fail
        go_roundw
        case rel => exact ⟨k + 1, out, ag, cg, rfl, by omega, HN.out, rfl, own, hB⟩
        case measure => simp [intOf]; omega
      | true =>
        have HN : Hid (out ++ [beaconN k fr t] = heardL row ts fr (k + 1)) := Lib.hid (by rw [heardL_succ, heardC, hy, if_pos rfl, htk, ← HO.out])
        clear hy htk
        have HB := Lib.hid hB
        have OW := Lib.hid own
        clear hB own
        go_wp2_with fail
        refine (beacon_any k fr t wr).mono ?_
        rintro e w2 ⟨rfl, hb2⟩
        have OW2 := Lib.hid (owns_below OW.out hb2 (Nat.le_refl _))
        have HB2 := Lib.hid (HB.out.trans (hb2.mono HB.out.size))
        have hw2 : w.heap.size ≤ w2.heap.size := HB2.out.size
        clear hb2 bix q0 e0 ze zq tix v0 v1 v2 zv
        obtain ⟨i0, Z, hi, hz0, hz1, hz2, hzs⟩ := info71_parts
        go_wp2_with (first
          | ((with_reducible refine wpList_build71 ?_ (.tmp 30) ?_ (beaconN k fr t) ?_ ?_); rfl; rfl; rfl)
          | (at_builtin; refine wpList_append_own _ rfl _ _ 27 rfl w.heap.size 71 i0 Z 31 392 Try.underlying27 hi hz0 hz1 hz2 hzs (by decide) _ _ _ rfl (OW2.out.alloc _) ⟨w2.heap.size, 0, none⟩ 1 1 (nrV (beaconN k fr t)) rfl (nrV_len _) (cells_new w2 (nrV (beaconN k fr t)) 71) (nrV_one _) (by unfold maxLen; omega) (by omega) (by simp; omega) ?_; intro v' wq hown' hgrow _; obtain ⟨g', cap', rfl⟩ := ownsRow_succ hown'; have OW1 := Lib.hid hown'; have HG := Lib.hid hgrow; clear hown' hgrow))
        go_roundw
        case rel =>
          refine ⟨k + 1, out ++ [beaconN k fr t], some ⟨g', 0, none⟩, cap', rfl, by omega, HN.out, ?_, ?_, ?_⟩
          · rw [List.length_append]; rfl
          · rw [List.map_append, List.flatten_append, List.length_append]
            simp only [List.map_cons, List.map_nil, List.flatten_cons, List.flatten_nil, List.append_nil, List.length_cons, List.length_nil]
            exact OW1.out
          · exact (HB2.out.alloc hw2 _).grown HG.out (by simp; omega) (fun k e => (OW2.out.lt k e).1)
        case measure => simp [intOf]; omega
    · have hkn : k = tn := by omega
      rw [hkn] at HO
      have hN : NearOk wr (.slice ag out.length cg) out := by
        refine ⟨owns_rows own _ (by simp) rfl (by intro cs h; obtain ⟨x, _, rfl⟩ := List.mem_map.1 h; rfl), fun x hx => ?_⟩
        rw [HO.out] at hx
        obtain ⟨c, t, ht, rfl⟩ := heardL_ok hx
        have tok := (hT.2 t (List.mem_of_getElem? ht)).below hB (Nat.le_refl _)
        exact ⟨tok.1, tok.2.1⟩
      clear own hkn
      go_wp2_with fail
      go_ret
      exact ⟨ag, cg, by rw [HO.out]; rfl, by rw [← HO.out]; exact hN, hB⟩

/-! ### After all have given up what they must, there are no clashes -/
def rowS (hs : List (List Bool)) (n a : Nat) : List Bool := (List.range n).map fun b => symB hs a b
theorem symL_at {hs : List (List Bool)} {n a : Nat} (h : a < n) : (symL hs n)[a]? = some (rowS hs n a) := by simp [symL, rowS, h]
theorem rowS_at {hs : List (List Bool)} {n a b : Nat} (h : b < n) : (rowS hs n a)[b]? = some (symB hs a b) := by simp [rowS, h]
theorem symB_comm (hs : List (List Bool)) (a b : Nat) : symB hs a b = symB hs b a := by
  unfold symB
  by_cases h1 : b < a
  · rw [if_pos h1, if_neg (by omega), if_pos h1]
  · rw [if_neg h1]
    by_cases h2 : a < b
    · rw [if_pos h2, if_pos h2]
    · rw [if_neg h2, if_neg h2, if_neg h1]

/-- A node's table after it has given up what it must. -/
def AfterOf (hs : List (List Bool)) (ts : List Tb) (now : Int) (i : Nat) (x : Tb) : Prop :=
  ∃ (t : Tb) (fr : Int), ts[i]? = some t ∧ (fr = now ∨ fr = now - 1) ∧ x.us = t.us.filter (keepU now i (heardL (rowS hs ts.length i) ts fr ts.length)) ∧ x.gs = t.gs.filter (keepG now (heardL (rowS hs ts.length i) ts fr ts.length))

theorem settle {hs : List (List Bool)} {ts af : List Tb} {now : Int} (hnow : 1 ≤ now ∧ now ≤ 4294967296) (hlen : af.length = ts.length) (h : ∀ i x, af[i]? = some x → AfterOf hs ts now i x) : clashesL (symL hs ts.length) af now = [] := by
  rw [List.eq_nil_iff_forall_not_mem]
  intro x hx
  obtain ⟨l, t', row, g, c, s', ht', hr, hg, hs', hrc, c1, c2, hu, c5, _⟩ := clash_of_mem hx
  have hl : l < ts.length := by have := lt_of_some ht'; omega
  have hc : c < ts.length := by have := lt_of_some hs'; omega
  obtain ⟨t, fl, ht, hfl, _, hgs⟩ := h l t' ht'
  obtain ⟨s, fc, hst, hfc, hus, _⟩ := h c s' hs'
  obtain ⟨u, hu, huc⟩ := List.any_eq_true.1 hu
  have huc := of_decide_eq_true huc
  rw [symL_at hl] at hr
  simp only [Option.some.injEq] at hr
  subst hr
  have hlc := hrc
  rw [rowS_at hc] at hrc
  have hcl : (rowS hs ts.length c)[l]? = some true := by
    rw [rowS_at hl, symB_comm, hrc]
  rw [hgs] at hg
  rw [hus] at hu
  obtain ⟨hg1, hg2⟩ := List.mem_filter.1 hg
  obtain ⟨hu1, hu2⟩ := List.mem_filter.1 hu
  have hlate : ∀ (fr : Int) (k : Nat) (q : Tb), (fr = now ∨ fr = now - 1) → lateB now (beaconN k fr q) = true := by
    intro fr k q h
    have hw : wrap64 (now - 1) = now - 1 := by unfold wrap64; omega
    rcases h with rfl | rfl
    · simp [lateB, beaconN]
    · simp [lateB, beaconN, hw]
  have b1 := betG_keep now g (heardL (rowS hs ts.length l) ts fl ts.length)
  rw [hg2, Bool.not_true, List.any_eq_false] at b1
  have b1 := b1 _ (heardL_mem hc hlc hst)
  have b2 := betU_keep now c u (heardL (rowS hs ts.length c) ts fc ts.length)
  rw [hu2, Bool.not_true, List.any_eq_false] at b2
  have b2 := b2 _ (heardL_mem hl hcl ht)
  unfold betG at b1
  unfold betU at b2
  rw [hlate fl c s hfl, Bool.true_and] at b1
  rw [hlate fc l t hfc, Bool.true_and] at b2
  have b3 : tellG (c : Int) g u = false := by
    cases hx : tellG (c : Int) g u with
    | false => rfl
    | true => exact absurd (List.any_eq_true.2 ⟨u, hu1, hx⟩) b1
  have b4 : tellU now c u g = false := by
    cases hx : tellU now c u g with
    | false => rfl
    | true => exact absurd (List.any_eq_true.2 ⟨g, hg1, hx⟩) b2
  have e1 : ((c : Int) != g.2.1) = true := by simpa using c2
  have e2 : (g.2.1 != (c : Int)) = true := by simpa using fun e => c2 e.symm
  unfold tellG at b3
  unfold tellU at b4
  rw [decide_eq_true huc, e1] at b3
  rw [decide_eq_true huc.symm, e2, decide_eq_true c5] at b4
  simp only [Bool.true_and, Bool.or_eq_false_iff, decide_eq_false_iff_not, Bool.and_eq_false_iff, beq_eq_false_iff_ne] at b3 b4
  omega

end Go.Proofs.Ytadiocpcpjbjpaa
