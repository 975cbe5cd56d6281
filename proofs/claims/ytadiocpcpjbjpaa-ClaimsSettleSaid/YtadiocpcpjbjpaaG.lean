import Derived.Test.YtadiocpcpjbjpaaF
namespace Go.Proofs.Ytadiocpcpjbjpaa
open Go.RowKit
attribute [local go_sem] Oper.semAt_some

/-- A claim (stamp, sender) is better than another one. -/
def betterB (c d : Int × Int) : Bool := decide (c.1 < d.1) || (c.1 == d.1 && decide (c.2 < d.2))
/-- A claim of another sender is better than mine. -/
def beatsB (mine c : Int × Int) : Bool := (c.2 != mine.2) && betterB c mine

theorem better_any (c d : Int × Int) (w : World) :
    Calls Try.prog 30 #[.agg #[.int .i64 c.1, .int .i64 c.2], .agg #[.int .i64 d.1, .int .i64 d.2]] w fun e w' => e = .returned (.bool (betterB c d)) ∧ Below w.heap.size w w' := by
  by_cases h1 : c.1 < d.1
  · go_enter Try.func30, Try.ntmps30
    go_wp2_with fail
    go_ret
    exact ⟨ret_bool (by simp [betterB, h1]), ((Below.refl _ _).alloc (Nat.le_refl _) _).alloc (by simp) _⟩
  · by_cases h2 : c.1 = d.1
    · have h2' : (c.1 == d.1) = true := by simp [h2]
      have H2 := Lib.hid h2
      clear h2
      go_enter Try.func30, Try.ntmps30
      go_wp2_with fail
      go_ret
      exact ⟨ret_bool (by simp [betterB, H2.out]), ((Below.refl _ _).alloc (Nat.le_refl _) _).alloc (by simp) _⟩
    · have h2' : (c.1 == d.1) = false := by simp [h2]
      have H2 := Lib.hid h2
      clear h2
      go_enter Try.func30, Try.ntmps30
      go_wp2_with fail
      go_ret
      exact ⟨ret_bool (by simp [betterB, H2.out]; omega), ((Below.refl _ _).alloc (Nat.le_refl _) _).alloc (by simp) _⟩

theorem above_setCell {B b o : Nat} {w : World} {v : Value} (h : b < B) : Above B w (w.setCell ⟨b, o, none⟩ v) :=
  ⟨by show w.heap.size ≤ (w.heap.modify _ _).size; rw [Array.size_modify]; exact Nat.le_refl _, fun k h1 _ => Below.heap_setCell _ _ _ _ (by simp; omega)⟩

theorem beaten_any (lb : Array Value) (xs : List (Int × Int)) (mine : Int × Int) (w : World)
    (hit : Stops Try.prog 31 lb (fun x : Int × Int => #[.agg #[.int .i64 x.1, .int .i64 x.2]]) xs w) :
    Calls Try.prog 25 #[.func (.func 31) #[] lb, .agg #[.int .i64 mine.1, .int .i64 mine.2]] w fun e w' => e = .returned (.bool (xs.any (beatsB mine))) ∧ Below w.heap.size w w' := by
  refine (callsIn_wide (n := 0)).1 ?_
  refine callsIn_of_wp_marks Try.func25 rfl trivial ?_ rfl
  simp only [Try.ntmps25, List.size_toArray, List.length_cons, List.length_nil, Nat.reduceAdd, Nat.reduceSub, Array.replicate_succ, Array.replicate_zero, List.push_toArray, List.append_toArray, List.nil_append, List.cons_append]
  gi_wp2_with fail
  refine wpIn_name ?_
  intro Wl hWl
  have zl : Wl.heap.size = w.heap.size + 2 := by rw [hWl]; simp
  have hBl : Below w.heap.size w Wl := by rw [hWl]; exact ((Below.refl _ w).alloc (Nat.le_refl _) _).alloc (by simp) _
  have m0 : Wl.cell? ⟨w.heap.size, 0, none⟩ = some (.int .i64 mine.1) := by rw [hWl]; go_simp
  have m1 : Wl.cell? ⟨w.heap.size, 1, none⟩ = some (.int .i64 mine.2) := by rw [hWl]; go_simp
  have r0 : Wl.cell? ⟨w.heap.size + 1, 0, none⟩ = some (.bool false) := by rw [hWl]; go_simp
  have f0 : Wl.frozen? ⟨w.heap.size + 1, 0, none⟩ = false := by rw [hWl]; go_simp
  clear hWl
  refine range_search (gf := 31) (lb := lb) rfl (enters_of Try.func31 (by kernel_rfl) rfl) hit hBl (fun _ => rfl) (beatsB mine)
    (fun W => W.cell? ⟨w.heap.size + 1, 0, none⟩ = some (.bool true) ∧ Below w.heap.size w W) (fun A A' hA hb => ⟨((hb.cell (p := ⟨w.heap.size + 1, 0, none⟩) (by simp; omega)).trans hA.1), hA.2.trans (hb.mono (by omega))⟩) ?round ?done ?stop
  case round =>
    intro x Wr l' hx hbr hl' hlt
    gi_wp2_with fail
    refine ⟨(Below.refl _ _).alloc (Nat.le_refl _) _, fun o => ?_⟩
    refine wpIn_name ?_
    intro Wb hWb
    have sb : Wr.heap.size < Wb.heap.size := by rw [hWb]; simp
    have hBb : Below Wl.heap.size Wl Wb := by rw [hWb]; exact (hbr.alloc (by omega) _).trans (below_putObj _ (by omega))
    have hB : Below w.heap.size w Wb := hBl.trans (hBb.mono (by omega))
    have p0 : Wb.cell? ⟨Wr.heap.size, 0, none⟩ = some (.int .i64 x.1) := by rw [hWb]; exact (cell_putObj (by simp; omega)).trans (by go_simp)
    have p1 : Wb.cell? ⟨Wr.heap.size, 1, none⟩ = some (.int .i64 x.2) := by rw [hWb]; exact (cell_putObj (by simp; omega)).trans (by go_simp)
    have n0 : Wb.cell? ⟨w.heap.size, 0, none⟩ = some (.int .i64 mine.1) := ((bcell hBb).1 _ _ (by omega)).trans m0
    have n1 : Wb.cell? ⟨w.heap.size, 1, none⟩ = some (.int .i64 mine.2) := ((bcell hBb).1 _ _ (by omega)).trans m1
    have s0 : Wb.cell? ⟨w.heap.size + 1, 0, none⟩ = some (.bool false) := ((bcell hBb).1 _ _ (by omega)).trans r0
    have s1 : Wb.frozen? ⟨w.heap.size + 1, 0, none⟩ = false := ((bcell hBb).2 _ _ (by omega)).trans f0
    have z1 : w.heap.size < Wb.heap.size := by omega
    have z2 : w.heap.size + 1 < Wb.heap.size := by omega
    have HWb := Lib.hid hWb
    clear hWb hx
    by_cases hne : x.2 = mine.2
    · have hne' : (x.2 != mine.2) = false := by simp [hne]
      have hs : beatsB mine x = false := by simp [beatsB, hne]
      have HS := Lib.hid hs
      clear hne hs
      gi_wp2_with fail
      refine ⟨trivial, ?_⟩
      gi_wp2_with fail
      exact ⟨HS.out, by rw [← HWb.out]; exact Below.refl _ _⟩
    · have hne' : (x.2 != mine.2) = true := by simp [hne]
      have hs : beatsB mine x = betterB x mine := by simp [beatsB, hne]
      have HS := Lib.hid hs
      clear hne hs
      gi_wp2_with fail
      refine ⟨trivial, rfl, (CallsIn.inRound _ (callsIn_wide.2 (better_any x mine _))).mono ?_⟩
      rintro e W2 ⟨rfl, hb2⟩
      obtain ⟨c2, f2⟩ := bcell hb2
      have s0' : W2.cell? ⟨w.heap.size + 1, 0, none⟩ = some (.bool false) := (c2 _ _ z2).trans s0
      have s1' : W2.frozen? ⟨w.heap.size + 1, 0, none⟩ = false := (f2 _ _ z2).trans s1
      have hBW2 : Below w.heap.size w W2 := hB.trans (hb2.mono (by omega))
      have HA := Lib.hid ((Below.above hb2 Wl.heap.size).trans (above_setCell (B := Wl.heap.size) (b := w.heap.size + 1) (o := 0) (v := .bool true) (by omega)))
      have HB2 := Lib.hid hb2
      clear c2 f2 hb2 s0 s1
      cases hbe : betterB x mine with
      | true =>
        have HS2 : Hid (beatsB mine x = true) := HS.out.trans hbe
        clear hbe
        gi_wp2_with fail
        exact ⟨HS2.out, by rw [← HWb.out]; exact HA.out, World.cell?_setCell_same' _ _ _ (by rw [s0']; rfl), hBW2.setCell (by simp) _⟩
      | false =>
        have HS2 : Hid (beatsB mine x = false) := HS.out.trans hbe
        clear hbe
        gi_wp2_with fail
        exact ⟨HS2.out, by rw [← HWb.out]; exact HB2.out⟩
  case done =>
    intro W2 hst hb2 hK
    have s0 : W2.cell? ⟨w.heap.size + 1, 0, none⟩ = some (.bool false) := ((bcell hb2).1 _ _ (by omega)).trans r0
    have s1 : W2.frozen? ⟨w.heap.size + 1, 0, none⟩ = false := ((bcell hb2).2 _ _ (by omega)).trans f0
    have hBW2 : Below w.heap.size w W2 := hBl.trans (hb2.mono (by omega))
    have hK2 : (W2.setCell ⟨w.heap.size + 1, 0, none⟩ (.bool false)).heap[Wl.heap.size]? = some (.deferred (some [])) := (Below.heap_setCell _ _ _ _ (by simp; omega)).trans hK
    have HK := Lib.hid hK2
    have HST := Lib.hid hst
    clear hb2 hK hK2 hst
    gi_wp2_with fail
    refine ⟨by simp, .inl ⟨_, _, rfl, run_takeDeferred HK.out, ?_⟩⟩
    refine ⟨.bool false, ?_, ret_bool HST.out.symm, (hBW2.setCell (by simp) _).trans (below_putObj _ (by omega))⟩
    have hcell : ((W2.setCell ⟨w.heap.size + 1, 0, none⟩ (.bool false)).putObj Wl.heap.size (.deferred none)).cell? ⟨w.heap.size + 1, 0, none⟩ = some (.bool false) :=
      (cell_putObj (by simp; omega)).trans (World.cell?_setCell_same' _ _ _ (by rw [s0]; rfl))
    simp [results, Try.results25, go_sem, hcell]
  case stop =>
    intro W2 hst hj hK
    gi_wp2_with fail
    refine ⟨by simp, .inl ⟨_, _, rfl, run_takeDeferred hK, ?_⟩⟩
    refine ⟨.bool true, ?_, ret_bool hst.symm, hj.2.trans (below_putObj _ (by omega))⟩
    have hcell : (W2.putObj Wl.heap.size (.deferred none)).cell? ⟨w.heap.size + 1, 0, none⟩ = some (.bool true) := (cell_putObj (by simp; omega)).trans hj.1
    simp [results, Try.results25, go_sem, hcell]

end Go.Proofs.Ytadiocpcpjbjpaa
