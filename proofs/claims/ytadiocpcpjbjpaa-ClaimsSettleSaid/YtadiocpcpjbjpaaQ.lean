import Derived.Test.YtadiocpcpjbjpaaO
import Derived.Laws.Rows
namespace Go.Proofs.Ytadiocpcpjbjpaa
open Go.RowKit

/-- What a node has heard of a neighbour with a table. -/
def beaconN (src fr : Int) (t : Tb) : Nr := { frame := fr, told := { src := src, asn := 0, boot := 0, hops := 0, bound := 0, fresh := 0, r0 := 0, r1 := 0, parent := 0, g0 := 0, g1 := 0, usesA := t.uA, usesL := t.uL, usesC := t.uC, grantsA := t.gA, grantsL := t.gL, grantsC := t.gC, asksA := t.kA, asksL := t.kL, asksC := t.kC, belowA := none, belowL := 0, belowC := 0, full := false, wordsA := none, wordsL := 0, wordsC := 0, mailA := none, mailL := 0, mailC := 0, gotA := none, gotL := 0, gotC := 0, n0 := 0, n1 := 0, n2 := 0, n3 := 0, pages := 0, version := 0, b0 := 0, b1 := 0, b2A := none, b2L := 0, b2C := 0, b3A := none, b3L := 0, b3C := 0, has := false, us := t.us, gs := t.gs } }

set_option maxRecDepth 100000 in
set_option maxHeartbeats 1000000 in
theorem beacon_any (src fr : Int) (t : Tb) (w : World) :
    Calls Try.prog 24 #[.int .i64 src, .int .i64 fr, .agg #[.slice t.uA t.uL t.uC, .slice t.gA t.gL t.gC, .slice t.kA t.kL t.kC]] w fun e w' => e = .returned (.agg (nrV (beaconN src fr t)).toArray) ∧ Below w.heap.size w w' := by
  go_enter Try.func24, Try.ntmps24
  have hz : (w.alloc (.cells #[.slice t.uA t.uL t.uC, .slice t.gA t.gL t.gC, .slice t.kA t.kL t.kC] 26)).heap.size = w.heap.size + 1 := by simp
  have HZ := Lib.hid hz
  clear hz
  go_wp2_with ((with_reducible refine wpList_store_new ?_ 71 (.tmp 6) (.tmp 16) ?_ (w.alloc (.cells #[.slice t.uA t.uL t.uC, .slice t.gA t.gL t.gC, .slice t.kA t.kL t.kC] 26)) 71 (nrV (beaconN src fr t)) ?_ ?_ ?_ (nrV_one _) (info71 _) ?_); rfl; rfl; exact ⟨_, rfl, rfl⟩; exact congrArg (fun n => Value.pointer (some ⟨n, 0, none⟩)) HZ.out.symm; rfl)
  refine bodyPost_ret (results_cell_row (fn := Try.f24) rfl _ _ (w.heap.size + 1) 71 (nrV (beaconN src fr t)).toArray (0, 0) _ rfl (HZ.out ▸ heap_new _ _) Try.underlying71 rfl (info71 _)) rfl ⟨rfl, ?_⟩
  exact ((Below.refl _ _).alloc (Nat.le_refl _) _).alloc (by simp) _

set_option maxRecDepth 100000 in
theorem few_any (t : Tb) (w : World) :
    Calls Try.prog 11 #[.agg #[.slice t.uA t.uL t.uC, .slice t.gA t.gL t.gC, .slice t.kA t.kL t.kC]] w fun e w' => e = .returned (.bool (decide (t.uL ≤ 40 ∧ t.gL ≤ 40 ∧ t.kL ≤ 40))) ∧ Below w.heap.size w w' := by
  go_enter Try.func11, Try.ntmps11
  by_cases h1 : t.uL ≤ 40
  case neg =>
    have d1 : decide ((t.uL : Int) ≤ 40) = false := decide_eq_false (by omega)
    have H1 := Lib.hid h1
    clear h1
    go_wp2_with fail
    go_ret
    exact ⟨ret_bool (by have := H1.out; simp; omega), (Below.refl _ _).alloc (Nat.le_refl _) _⟩
  by_cases h2 : t.gL ≤ 40
  case neg =>
    have d1 : decide ((t.uL : Int) ≤ 40) = true := decide_eq_true (by omega)
    have d2 : decide ((t.gL : Int) ≤ 40) = false := decide_eq_false (by omega)
    have hf : decide (t.uL ≤ 40 ∧ t.gL ≤ 40 ∧ t.kL ≤ 40) = false := decide_eq_false (fun h => h2 h.2.1)
    have H2 := Lib.hid hf
    clear h1 h2 hf
    go_wp2_with fail
    go_ret
    exact ⟨ret_bool H2.out.symm, (Below.refl _ _).alloc (Nat.le_refl _) _⟩
  have d1 : decide ((t.uL : Int) ≤ 40) = true := decide_eq_true (by omega)
  have d2 : decide ((t.gL : Int) ≤ 40) = true := decide_eq_true (by omega)
  have hf : decide ((t.kL : Int) ≤ 40) = decide (t.uL ≤ 40 ∧ t.gL ≤ 40 ∧ t.kL ≤ 40) := by
    simp only [decide_eq_decide]
    omega
  have H2 := Lib.hid hf
  clear h1 h2 hf
  go_wp2_with fail
  go_ret
  exact ⟨ret_bool H2.out, (Below.refl _ _).alloc (Nat.le_refl _) _⟩

set_option maxRecDepth 100000 in
theorem holds_grant (l : List Gr) (g : Gr) (a : Option Addr) (n cap : Nat) (vu va : Value) (us : Us) (w : World) (hn : n = l.length) (hm : n ≤ maxLen) (hl : Rows 5 w (.slice a n cap) (l.map grV)) :
    Calls Try.prog 14 #[.agg #[vu, .slice a n cap, va], .agg #[.int .i64 us.1.1, .int .i64 us.1.2, .int .i64 us.2.1, .int .i64 us.2.2], .agg #[.int .i64 g.1.1, .int .i64 g.1.2, .int .i64 g.2.1, .int .i64 g.2.2.1, .int .i64 g.2.2.2], .bool false] w
      fun e w' => e = .returned (.bool (decide (g ∈ l))) ∧ Below w.heap.size w w' := by
  unfold maxLen at hm
  have HN := Lib.hid hn
  clear hn
  go_enter Try.func14, Try.ntmps14
  go_wp2_with fail
  refine wp_name ?_
  intro W0 hW0
  have z0 : w.heap.size + 2 < W0.heap.size := by rw [hW0]; simp
  have c0 : W0.cell? ⟨w.heap.size + 2, 0, none⟩ = some (.int .i64 g.1.1) := by rw [hW0]; go_simp
  have c1 : W0.cell? ⟨w.heap.size + 2, 1, none⟩ = some (.int .i64 g.1.2) := by rw [hW0]; go_simp
  have c2 : W0.cell? ⟨w.heap.size + 2, 2, none⟩ = some (.int .i64 g.2.1) := by rw [hW0]; go_simp
  have c3 : W0.cell? ⟨w.heap.size + 2, 3, none⟩ = some (.int .i64 g.2.2.1) := by rw [hW0]; go_simp
  have c4 : W0.cell? ⟨w.heap.size + 2, 4, none⟩ = some (.int .i64 g.2.2.2) := by rw [hW0]; go_simp
  have hB0 : Below w.heap.size w W0 := by rw [hW0]; exact (((Below.refl _ _).alloc (Nat.le_refl _) _).alloc (by simp) _).alloc (by simp; omega) _
  clear hW0
  have hl0 := hl.below hB0 (Nat.le_refl _)
  go_loopw [28] (fun i wr => ∃ k : Nat, i = .int .i64 k ∧ k ≤ n ∧ g ∉ l.take k ∧ Below W0.heap.size W0 wr)
    (fun i _ => n - (intOf i).toNat)
  case atStart => exact ⟨0, rfl, by omega, by simp, Below.refl _ _⟩
  case round =>
    obtain ⟨k, rfl, hk, hx, hb⟩ := hrel
    obtain ⟨hc, hf⟩ := bcell hb
    have hz : w.heap.size + 2 < wr.heap.size := by have := hb.size; omega
    have hz1 : w.heap.size + 1 + 1 < wr.heap.size := by have := hb.size; omega
    by_cases hlt : k < n
    · obtain ⟨x, hxk⟩ : ∃ x, l[k]? = some x := ⟨l[k]'(by rw [← HN.out]; exact hlt), List.getElem?_eq_getElem _⟩
      obtain ⟨b, off, hix, d0, d1, d2, d3, d4⟩ := gr_at (hl0.below hb (Nat.le_refl _)) hxk
      have he := gr_eql x g
      by_cases hxu : x = g
      · have hm : g ∈ l := by rw [← hxu]; exact List.mem_of_getElem? hxk
        have hd : decide (x = g) = true := decide_eq_true hxu
        have HM := Lib.hid hm
        clear hm hxu hx hxk
        go_wp2_with fail
        go_ret
        exact ⟨ret_bool (by simp [HM.out]), (hB0.trans (hb.mono (by have := hB0.size; omega))).alloc (by have := hb.size; have := hB0.size; omega) _⟩
      · have hd : decide (x = g) = false := decide_eq_false hxu
        have HX := Lib.hid (not_take_succ hxk hx hxu)
        clear hxu hx hxk
        go_wp2_with fail
        go_roundw
        case rel => exact ⟨k + 1, rfl, by omega, HX.out, hb.alloc hb.size _⟩
        case measure => simp [intOf]; omega
    · have HX := Lib.hid (not_take_all HN.out hlt hx)
      clear hx
      go_wp2_with fail
      go_ret
      exact ⟨ret_bool (by simp [HX.out]), hB0.trans (hb.mono (by have := hB0.size; omega))⟩

def nearFew (near : List Nr) : Prop := ∀ n ∈ near, n.told.usesL ≤ 40 ∧ n.told.grantsL ≤ 40

end Go.Proofs.Ytadiocpcpjbjpaa
