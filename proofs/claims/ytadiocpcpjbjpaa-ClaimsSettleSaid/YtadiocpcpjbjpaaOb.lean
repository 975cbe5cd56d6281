import Derived.Test.YtadiocpcpjbjpaaRb
namespace Go.Proofs.Ytadiocpcpjbjpaa
open Go.RowKit

/-! ### The neighbours without old news -/
/-- What of a neighbour is compared. -/
def plN (n : Nr) : Int × Int × List Us × List Gr := (n.frame, n.told.src, n.told.us, n.told.gs)
def runB (fr : Int) (g : Gr) : Bool := decide (fr ≤ g.2.2.2)
def trimL (fr : Int) (l : List Nr) : List (Int × Int × List Us × List Gr) := (l.filter (lateB fr)).map fun n => (n.frame, n.told.src, n.told.us, n.told.gs.filter (runB fr))
def setG (y : Nr) (ga : Option Addr) (gl gc : Nat) (gs : List Gr) : Nr := { y with told := { y.told with grantsA := ga, grantsL := gl, grantsC := gc, gs := gs } }

theorem trim_skip {fr : Int} {l : List Nr} {k : Nat} {x : Nr} (hx : l[k]? = some x) (h : lateB fr x = false) : trimL fr (l.take (k + 1)) = trimL fr (l.take k) := by
  unfold trimL
  rw [filter_take_skip hx h]
theorem trim_keep {fr : Int} {l : List Nr} {k : Nat} {x : Nr} (hx : l[k]? = some x) (h : lateB fr x = true) : trimL fr (l.take (k + 1)) = trimL fr (l.take k) ++ [(x.frame, x.told.src, x.told.us, x.told.gs.filter (runB fr))] := by
  unfold trimL
  rw [filter_take_keep hx h, List.map_append]
  rfl

theorem betU_pl {fr me : Int} {u : Us} {n n' : Nr} (h1 : n'.frame = n.frame) (h2 : n'.told.gs = n.told.gs.filter (runB fr)) : betU fr me u n' = betU fr me u n := by
  have hl : lateB fr n' = lateB fr n := by unfold lateB; rw [h1]
  unfold betU
  rw [hl, h2, List.any_filter]
  congr 2
  funext g
  unfold tellU runB
  cases decide (fr ≤ g.2.2.2) <;> simp
theorem betG_pl {fr : Int} {g : Gr} {n n' : Nr} (h1 : n'.frame = n.frame) (h2 : n'.told.src = n.told.src) (h3 : n'.told.us = n.told.us) : betG fr g n' = betG fr g n := by
  have hl : lateB fr n' = lateB fr n := by unfold lateB; rw [h1]
  unfold betG
  rw [hl, h2, h3]

theorem any_trim {fr : Int} {near lat : List Nr} (h : lat.map plN = trimL fr near) (p : Nr → Bool) (hl : ∀ n, lateB fr n = false → p n = false)
    (hp : ∀ n n' : Nr, n'.frame = n.frame → n'.told.src = n.told.src → n'.told.us = n.told.us → n'.told.gs = n.told.gs.filter (runB fr) → p n' = p n) : lat.any p = near.any p := by
  induction near generalizing lat with
  | nil =>
    have : lat = [] := by simpa [trimL] using h
    rw [this]
  | cons n near ih =>
    cases hn : lateB fr n with
    | false =>
      have h' : lat.map plN = trimL fr near := by rw [h]; simp [trimL, hn]
      rw [ih h', List.any_cons, hl n hn]
      rfl
    | true =>
      cases lat with
      | nil => simp [trimL, hn] at h
      | cons n' lat =>
        have h' : plN n' = (n.frame, n.told.src, n.told.us, n.told.gs.filter (runB fr)) ∧ lat.map plN = trimL fr near := by
          simpa [trimL, hn] using h
        obtain ⟨h1, h2⟩ := h'
        simp only [plN, Prod.mk.injEq] at h1
        rw [List.any_cons, List.any_cons, ih h2, hp n n' h1.1 h1.2.1 h1.2.2.1 h1.2.2.2]

theorem keepU_trim {fr me : Int} {near lat : List Nr} (h : lat.map plN = trimL fr near) : keepU fr me lat = keepU fr me near := by
  funext u
  have := any_trim h (betU fr me u) (fun n hn => by simp [betU, hn]) (fun n n' h1 _ _ h4 => betU_pl h1 h4)
  rw [betU_keep, betU_keep] at this
  simpa using this
theorem keepG_trim {fr : Int} {near lat : List Nr} (h : lat.map plN = trimL fr near) : keepG fr lat = keepG fr near := by
  funext g
  have := any_trim h (betG fr g) (fun n hn => by simp [betG, hn]) (fun n n' h1 h2 h3 _ => betG_pl h1 h2 h3)
  rw [betG_keep, betG_keep] at this
  simpa using this

theorem wpList_build71 {ops : Array Oper} {rest : List Oper} {o : Oper} {a : Act} {w : World} {Q : Exit → Act → World → Prop} (hgd : o.guard = none) (y : Operand)
    (ho : o.op = .buildSlice 27 1 #[(0, y)]) (x : Nr) (hy : a.eval y = .agg (nrV x).toArray)
    (h : wpList Try.prog ops Q rest (a.put o.dst (.slice (some ⟨w.heap.size, 0, none⟩) 1 1)) (w.alloc (.cells (nrV x).toArray 71))) : wpList Try.prog ops Q (o :: rest) a w := by
  obtain ⟨z, hz⟩ := zero71
  have hr := run_buildSlice_one (P := Try.prog) w 27 71 31 z (nrV x).toArray Try.underlying27 sz71 hz (by omega) (by omega) (by simp [nrV_len])
  refine wpList_plain hgd fun K hK => ?_
  unfold Oper.wp execOp
  simp only [ho, List.map_toArray, List.map_cons, List.map_nil, hy, hr, Sem.run_bind, Sem.run_pure, Result.andThen_ok]
  exact hK _ _ h

/-- The list so far. -/
def OldSt (W5 : World) (fr : Int) (near : List Nr) (j : Nat) (v : Value) (wr : World) : Prop :=
  ∃ (lat : List Nr) (ag : Option Addr) (cg : Nat), v = .slice ag lat.length cg ∧ lat.length ≤ j ∧ wr.ownsRow W5.heap.size 71 31 (.slice ag lat.length cg) lat.length (lat.map nrV).flatten ∧
    (∀ x ∈ lat, Rows 4 W5 (.slice x.told.usesA x.told.usesL x.told.usesC) (x.told.us.map usV) ∧ wr.ownsRow W5.heap.size 38 5 (.slice x.told.grantsA x.told.grantsL x.told.grantsC) x.told.grantsL (x.told.gs.map grV).flatten) ∧
    lat.map plN = trimL fr (near.take j) ∧ Below W5.heap.size W5 wr
/-- The grants of one neighbour so far. -/
def OldIn (w0 : World) (Mi b13 b12 : Nat) (y : Nr) (L : List Gr) (wr : World) : Prop :=
  ∃ (ag : Option Addr) (cg : Nat), Blk wr b13 (nrV (setG y ag L.length cg L)).toArray 71 ∧ wr.ownsRow Mi 38 5 (.slice ag L.length cg) L.length (L.map grV).flatten ∧ Blk wr b12 (nrV y).toArray 71 ∧ Below w0.heap.size w0 wr ∧ Mi ≤ wr.heap.size

theorem nrV_setG (y : Nr) (ga : Option Addr) (gl gc : Nat) (gs : List Gr) : (nrV y).toArray.setIfInBounds 13 (.slice ga gl gc) = (nrV (setG y ga gl gc gs)).toArray := by
  rw [List.setIfInBounds_toArray]
  rfl
theorem nrV_setG2 (y : Nr) (a : Option Addr) (b c : Nat) (d : List Gr) (ga : Option Addr) (gl gc : Nat) (gs : List Gr) : (nrV (setG y a b c d)).toArray.setIfInBounds 13 (.slice ga gl gc) = (nrV (setG y ga gl gc gs)).toArray := by
  rw [List.setIfInBounds_toArray]
  rfl
theorem owns_base {w : World} {base base' n : Nat} {e : TypeId} {size : Nat} {v : Value} {xs : List Value} (h : w.ownsRow base e size v n xs) (hb : base' ≤ base) : w.ownsRow base' e size v n xs := by
  rcases h with ⟨h1, h2 | ⟨g, cap, cur, hv, hg, r⟩⟩
  · exact ⟨h1, .inl h2⟩
  · exact ⟨h1, .inr ⟨g, cap, cur, hv, by omega, r⟩⟩

theorem owns_type {w w1 : World} {base n m : Nat} {e e' : TypeId} {size size' : Nat} {v v' : Value} {xs ys : List Value} (h : w.ownsRow base e size v n xs) (h' : w.ownsRow base e' size' v' m ys) (hne : e ≠ e') (hg : w.grownBy w1 v'.ownBlock) : w1.ownsRow base e size v n xs := by
  refine h.kept hg ?_
  cases hv : v.ownBlock with
  | none => exact .inl rfl
  | some g =>
    refine .inr (fun e2 => ?_)
    rcases h.2 with ⟨rfl, _⟩ | ⟨g1, _, c1, rfl, _, hh1, _⟩
    · cases hv
    · rcases h'.2 with ⟨rfl, _⟩ | ⟨g2, _, c2, rfl, _, hh2, _⟩
      · cases e2
      · simp only [Value.ownBlock, Option.some.injEq] at hv e2
        subst hv
        subst e2
        rw [hh1] at hh2
        simp only [Option.some.injEq, Obj.cells.injEq] at hh2
        exact hne hh2.2.1

theorem yield_two (t : Tb) (me fr : Int) (a : Option Addr) (n cap : Nat) (near lat : List Nr) {t1 : Tb} {b : Nat} {A W : World} (ht : TbOk A t) (hlat : NearOk A (.slice a n cap) lat) (hu : t.uL ≤ 40) (hg : t.gL ≤ 40) (hp : lat.map plN = trimL fr near)
    (h1 : TbOk W t1 ∧ t1.us = t.us.filter (keepU fr me near) ∧ t1.gs = t.gs.filter (keepG fr near) ∧ t1.ks = t.ks) (h : TS b t A W) :
    Calls Try.prog 13 #[.agg #[.slice t.uA t.uL t.uC, .slice t.gA t.gL t.gC, .slice t.kA t.kL t.kC], .int .i64 me, .slice a n cap, .int .i64 fr] W fun e w' =>
      ∃ t' : Tb, e = .returned (.agg #[.slice t'.uA t'.uL t'.uC, .slice t'.gA t'.gL t'.gC, .slice t'.kA t'.kL t'.kC]) ∧ (TbOk w' t1 ∧ TbOk w' t' ∧ t1.same t' = true) ∧ TS b t A w' := by
  have hl := hlat.1.length
  simp only [List.length_map] at hl
  refine (yield_any t me fr a n cap lat W hl.2 hl.1 (ht.below h.2.2.2 (Nat.le_refl _)) (hlat.below h.2.2.2 (Nat.le_refl _)) (by omega) (by omega)).mono ?_
  rintro e w' ⟨t', q1, q2, q3, q4, q5, q6⟩
  rw [keepU_trim hp] at q3
  rw [keepG_trim hp] at q4
  exact ⟨t', q1, ⟨h1.1.below q6 (Nat.le_refl _), q2, same_of (h1.2.1.trans q3.symm) (h1.2.2.1.trans q4.symm) (h1.2.2.2.trans q5.symm)⟩, h.on q6⟩
theorem same_two {s t' t : Tb} {b : Nat} {A W : World} (h3 : TbOk W s ∧ TbOk W t' ∧ s.same t' = true) (h : TS b t A W) :
    Calls Try.prog 18 #[.agg #[.slice s.uA s.uL s.uC, .slice s.gA s.gL s.gC, .slice s.kA s.kL s.kC], .agg #[.slice t'.uA t'.uL t'.uC, .slice t'.gA t'.gL t'.gC, .slice t'.kA t'.kL t'.kC]] W fun e w' => e = .returned (.bool true) ∧ TS b t A w' :=
  (same_any s t' W h3.1 h3.2.1).mono fun _ _ ⟨h1, h2⟩ => ⟨by rw [h1, h3.2.2], h.on h2⟩

set_option maxRecDepth 100000 in
set_option maxHeartbeats 4000000 in
theorem ClaimsOld_walk (t : Tb) (me : Int) (a : Option Addr) (n cap : Nat) (near : List Nr) (fr : Int) (w : World) (ht : TbOk w t) (hnear : NearOk w (.slice a n cap) near) :
    Calls Try.prog 9 #[.agg #[.slice t.uA t.uL t.uC, .slice t.gA t.gL t.gC, .slice t.kA t.kL t.kC], .int .i64 me, .slice a n cap, .int .i64 fr] w fun e w' => e = .returned (.bool true) ∧ Below w.heap.size w w' := by
  have hlen := hnear.1.length
  simp only [List.length_map] at hlen
  obtain ⟨hn, hm⟩ := hlen
  unfold maxLen at hm
  have HN := Lib.hid hn
  clear hn
  go_enter Try.func9, Try.ntmps9
  go_wp2_with fail
  refine (head_any _).mono ?_
  rintro e w1 ⟨rfl, hb1⟩
  obtain ⟨hc1, _⟩ := bcell hb1
  have c0 : w1.cell? ⟨w.heap.size, 0, none⟩ = some (.slice t.uA t.uL t.uC) := by rw [hc1 _ _ (by simp)]; go_simp
  have c1 : w1.cell? ⟨w.heap.size, 1, none⟩ = some (.slice t.gA t.gL t.gC) := by rw [hc1 _ _ (by simp)]; go_simp
  have c2 : w1.cell? ⟨w.heap.size, 2, none⟩ = some (.slice t.kA t.kL t.kC) := by rw [hc1 _ _ (by simp)]; go_simp
  have hB1 : Below w.heap.size w w1 := ((Below.refl _ w).alloc (Nat.le_refl _) _).trans (hb1.mono (by simp))
  have z1 : w.heap.size < w1.heap.size := cell_block c0
  clear hb1 hc1
  by_cases hlo : fr < -1152921504606846976
  · have hd : decide (fr < -1152921504606846976) = true := decide_eq_true hlo
    clear hlo
    go_wp2_with fail
    go_ret
    exact ⟨rfl, hB1⟩
  have hd : decide (fr < -1152921504606846976) = false := decide_eq_false hlo
  clear hlo
  go_wp2_with fail
  clear hd
  refine (few_any t w1).mono ?_
  rintro e w2 ⟨rfl, hb2⟩
  have hB2 := hB1.trans (hb2.mono hB1.size)
  obtain ⟨hc2, _⟩ := bcell hb2
  have c0' := (hc2 w.heap.size 0 z1).trans c0
  have c1' := (hc2 w.heap.size 1 z1).trans c1
  have c2' := (hc2 w.heap.size 2 z1).trans c2
  clear hb2 hc2 hB1 c0 c1 c2
  by_cases hfew : t.uL ≤ 40 ∧ t.gL ≤ 40 ∧ t.kL ≤ 40
  case neg =>
    have hd : decide (t.uL ≤ 40 ∧ t.gL ≤ 40 ∧ t.kL ≤ 40) = false := decide_eq_false hfew
    simp only [hd]
    clear hd hfew
    go_wp2_with fail
    go_ret
    exact ⟨rfl, hB2⟩
  have hd : decide (t.uL ≤ 40 ∧ t.gL ≤ 40 ∧ t.kL ≤ 40) = true := decide_eq_true hfew
  simp only [hd]
  clear hd
  go_wp2_with fail
  refine (fewNear_any a n cap near w2 (hnear.below hB2 (Nat.le_refl _))).mono ?_
  rintro e w3 ⟨rfl, hb3⟩
  have hB3 := hB2.trans (hb3.mono hB2.size)
  have z2 : w.heap.size < w2.heap.size := cell_block c0'
  obtain ⟨hc3, _⟩ := bcell hb3
  have c0 := (hc3 w.heap.size 0 z2).trans c0'
  have c1 := (hc3 w.heap.size 1 z2).trans c1'
  have c2 := (hc3 w.heap.size 2 z2).trans c2'
  clear hb3 hc3 hB2 c0' c1' c2' z1 z2
  cases hfn : (near.all fewB && decide (n ≤ 70)) with
  | false =>
    clear hfn
    go_wp2_with fail
    go_ret
    exact ⟨rfl, hB3⟩
  | true =>
    have hfn0 := hfn
    clear hfn
    have h70 : n ≤ 70 := by
      simp only [Bool.and_eq_true, decide_eq_true_eq] at hfn0
      exact hfn0.2
    have hg40s : ∀ x ∈ near, x.told.grantsL ≤ 40 := fun x hx => by
      simp only [Bool.and_eq_true, decide_eq_true_eq] at hfn0
      have := List.all_eq_true.1 hfn0.1 x hx
      simp only [fewB, Bool.and_eq_true, decide_eq_true_eq] at this
      exact this.2
    clear hfn0
    have hnear3 := hnear.below hB3 (Nat.le_refl _)
    have z3 : w.heap.size < w3.heap.size := cell_block c0
    have hu40 := hfew.1
    have hg40 := hfew.2.1
    have ht3 := ht.below hB3 (Nat.le_refl _)
    have hTS : TS w.heap.size t w3 w3 := ⟨c0, c1, c2, Below.refl _ _⟩
    have HGS := Lib.hid hg40s
    clear c0 c1 c2 hfew hg40s
    go_wp2_with fail
    go_loopw [10, 32] (fun v i wr => ∃ j : Nat, i = .int .i64 j ∧ j ≤ n ∧ OldSt w3 fr near j v wr) (fun _ i _ => n - (intOf i).toNat)
    case atStart => exact ⟨0, rfl, by omega, [], none, 0, rfl, by simp, World.ownsRow_nil _ _ _ _, by simp, rfl, Below.refl _ _⟩
    case round =>
      obtain ⟨j, rfl, hj, lat, ag, cg, rfl, hlj, own, hlat, hpl, hb⟩ := hrel
      have HPL := Lib.hid hpl
      have HLAT := Lib.hid hlat
      clear hpl hlat
      by_cases hlt : j < n
      · obtain ⟨y, hyk⟩ : ∃ y, near[j]? = some y := ⟨near[j]'(by have := HN.out; omega), List.getElem?_eq_getElem _⟩
        obtain ⟨nb, noff, nix, hrg⟩ := nr_at (hnear3.1.below hb (Nat.le_refl _)) hyk
        have hyg := HGS.out y (List.mem_of_getElem? hyk)
        have hbok := hnear3.2 y (List.mem_of_getElem? hyk)
        have hgrow := hbok.2
        have ly := hgrow.length.1
        rw [List.length_map] at ly
        have LY := Lib.hid ly
        have HR := Lib.hid hrg
        have HYK := Lib.hid hyk
        obtain ⟨p0, p1⟩ := nr_new wr y
        have pf := p1 12 _ rfl
        have P1 := Lib.hid p1
        clear ly hrg hyk p1
        have hcase : ((y.frame != fr) = true ∧ (y.frame != wrap64 (fr - 1)) = true) ∨ (y.frame != fr) = false ∨ ((y.frame != fr) = true ∧ (y.frame != wrap64 (fr - 1)) = false) := by
          cases (y.frame != fr) <;> cases (y.frame != wrap64 (fr - 1)) <;> simp
        have hlateT : ((y.frame != fr) = false ∨ ((y.frame != fr) = true ∧ (y.frame != wrap64 (fr - 1)) = false)) → lateB fr y = true := fun h => by
          rcases h with h | h
          · simp only [bne_eq_false_iff_eq] at h; simp [lateB, h]
          · have := h.2; simp only [bne_eq_false_iff_eq] at this; simp [lateB, this]
        rcases hcase with ⟨h1, h2⟩ | h1 | ⟨h1, h2⟩
        · have hl : lateB fr y = false := by
            have a1 : (y.frame == fr) = false := by simpa [bne] using h1
            have a2 : (y.frame == wrap64 (fr - 1)) = false := by simpa [bne] using h2
            unfold lateB; rw [a1, a2]; rfl
          have HT := Lib.hid (trim_skip HYK.out hl)
          clear hl hlateT
          go_wp2_with (first
            | ((with_reducible refine wpList_load_row' ?_ 71 (.tmp 34) ?_ nb (noff + j * 31) ?_ (nrV y) _ HR.out Try.underlying71 ?_ (info71 y) ?_); rfl; rfl; rfl; rfl)
            | ((with_reducible refine wpList_store_new ?_ 71 (.tmp 12) (.tmp 35) ?_ wr 71 (nrV y) ?_ ?_ ?_ (nrV_one y) (info71 y) ?_); rfl; rfl; exact ⟨_, rfl, rfl⟩; rfl; rfl))
          have hBa : Below wr.heap.size wr (wr.alloc (.cells (nrV y).toArray 71)) := (Below.refl _ _).alloc (Nat.le_refl _) _
          go_roundw
          case rel => exact ⟨j + 1, rfl, by omega, lat, ag, cg, rfl, by omega, owns_below own hBa (Nat.le_refl _), fun x hx => ⟨(HLAT.out x hx).1, owns_below (HLAT.out x hx).2 hBa (Nat.le_refl _)⟩, by rw [HT.out]; exact HPL.out, hb.alloc hb.size _⟩
          case measure => simp [intOf]; omega
        all_goals
          have hl : lateB fr y = true := hlateT (by first | exact .inl h1 | exact .inr ⟨h1, h2⟩)
          have HT := Lib.hid (trim_keep HYK.out hl)
          clear hl hlateT
          go_upto_region 9 with (first
            | ((with_reducible refine wpList_load_row' ?_ 71 (.tmp 34) ?_ nb (noff + j * 31) ?_ (nrV y) _ HR.out Try.underlying71 ?_ (info71 y) ?_); rfl; rfl; rfl; rfl)
            | ((with_reducible refine wpList_store_new ?_ 71 (.tmp 12) (.tmp 35) ?_ wr 71 (nrV y) ?_ ?_ ?_ (nrV_one y) (info71 y) ?_); rfl; rfl; exact ⟨_, rfl, rfl⟩; rfl; rfl))
          refine wp_name ?_
          intro W1 hW1
          have b12 : Blk W1 wr.heap.size (nrV y).toArray 71 := by rw [hW1]; exact Blk.new _ _ _
          have hB1 : Below wr.heap.size wr W1 := by rw [hW1]; exact (Below.refl _ _).alloc (Nat.le_refl _) _
          have HR12 : Hid (W1.rangeAt wr.heap.size 0 (nrV y)) := Lib.hid (fun j v hj => by rw [Nat.zero_add, b12.cell]; simpa using hj)
          have z12 : wr.heap.size < W1.heap.size := b12.lt
          clear hW1 p0 pf nix
          go_upto_region 10 with (first
            | ((with_reducible refine wpList_load_row' ?_ 71 (.tmp 12) ?_ wr.heap.size 0 ?_ (nrV y) _ HR12.out Try.underlying71 ?_ (info71 y) ?_); rfl; rfl; rfl; rfl)
            | ((with_reducible refine wpList_store_new ?_ 71 (.tmp 13) (.tmp 47) ?_ W1 71 (nrV y) ?_ ?_ ?_ (nrV_one y) (info71 y) ?_); rfl; rfl; exact ⟨_, rfl, rfl⟩; rfl; rfl))
          refine wp_name ?_
          intro W2 hW2
          have b13 : Blk W2 W1.heap.size (nrV y).toArray 71 := by rw [hW2]; exact Blk.new _ _ _
          have hB2 : Below W1.heap.size W1 W2 := by rw [hW2]; exact (Below.refl _ _).alloc (Nat.le_refl _) _
          have b12' := b12.below hB2 b12.lt
          have z13 : W1.heap.size < W2.heap.size := b13.lt
          have hB02 := hB1.trans (hB2.mono hB1.size)
          obtain ⟨x13, hx13⟩ : ∃ x13, W1.heap.size = x13 := ⟨_, rfl⟩
          obtain ⟨x12, hx12⟩ : ∃ x12, wr.heap.size = x12 := ⟨_, rfl⟩
          have hwr : wr.heap.size ≤ x12 := by omega
          have HX := Lib.hid hx12
          rw [hx13] at b13 z12 z13 ⊢
          rw [hx12] at b12' z12 ⊢
          have e13 : W2.cell? ⟨x13, 13, none⟩ = some (.slice y.told.grantsA y.told.grantsL y.told.grantsC) := b13.cell 13
          have f13 : W2.frozen? ⟨x13, 13, none⟩ = false := b13.frozen 13
          have e12 : W2.cell? ⟨x12, 13, none⟩ = some (.slice y.told.grantsA y.told.grantsL y.told.grantsC) := b12'.cell 13
          have z12' : x12 < W2.heap.size := b12'.lt
          have B13 := Lib.hid b13
          have B12 := Lib.hid b12'
          have HB02 := Lib.hid hB02
          clear hW2 b12 HR12 hx12 hx13 hB1 hB2 b13 b12' hB02
          go_upto_region 12 with fail
          refine wp_name ?_
          intro W3 hW3
          obtain ⟨Mi, hMi⟩ : ∃ Mi, W2.heap.size = Mi := ⟨_, rfl⟩
          have hI0 : OldIn wr Mi x13 x12 y [] W3 := by
            rw [hW3]
            refine ⟨none, 0, ?_, World.ownsRow_nil _ _ _ _, B12.out.other (by omega) _, HB02.out.setCell (by have := HX.out; dsimp only; omega) _, by simp; omega⟩
            rw [List.length_nil, ← nrV_setG]
            exact B13.out.set 13 _
          have hx13M : x13 < Mi := by omega
          have hx12M : x12 < x13 := z12
          have hxw : wr.heap.size = x12 := HX.out
          have HXW := Lib.hid hxw
          clear hW3 e13 f13 e12 z12' B13 B12 HB02 hMi z12 z13 HX hwr hxw
          clear W2
          clear W1
          obtain ⟨wo, rfl⟩ : ∃ wo : World, wo = wr := ⟨_, rfl⟩
          go_loopw [54] (fun i wr => ∃ m : Nat, i = .int .i64 m ∧ m ≤ y.told.grantsL ∧ OldIn wo Mi x13 x12 y ((y.told.gs.take m).filter (runB fr)) wr) (fun i _ => y.told.grantsL - (intOf i).toNat)
          case atStart => exact ⟨0, rfl, by omega, by simpa using hI0⟩
          case round =>
            clear hI0
            obtain ⟨m, rfl, hm2, hI⟩ := hrel
            obtain ⟨L, hL⟩ : ∃ L, (y.told.gs.take m).filter (runB fr) = L := ⟨_, rfl⟩
            rw [hL] at hI
            have HL := Lib.hid hL
            obtain ⟨gg, cgg, bl13, ogr, bl12, hbi, hMw⟩ := hI
            have HL40 : Hid (L.length ≤ 40) := Lib.hid (by rw [← HL.out]; exact Nat.le_trans (List.length_filter_le _ _) (by rw [List.length_take]; omega))
            clear hL
            have hwo := hb.size
            by_cases hltm : m < y.told.grantsL
            · obtain ⟨g, hgk⟩ : ∃ g, y.told.gs[m]? = some g := ⟨y.told.gs[m]'(by have := LY.out; omega), List.getElem?_eq_getElem _⟩
              obtain ⟨gb, go, gix, g0, g1, g2, g3, g4⟩ := gr_at ((hgrow.below hb (Nat.le_refl _)).below hbi (Nat.le_refl _)) hgk
              have HGK := Lib.hid hgk
              clear hgk
              by_cases hun : fr ≤ g.2.2.2
              case neg =>
                have hund : decide (fr ≤ g.2.2.2) = false := decide_eq_false hun
                have HK : Hid ((y.told.gs.take (m + 1)).filter (runB fr) = L) := Lib.hid (by rw [← HL.out]; exact filter_take_skip HGK.out (by simp [runB, hun]))
                have HI : Hid (∀ W', Below wr.heap.size wr W' → OldIn wo Mi x13 x12 y L W') := Lib.hid (fun W' hb' => ⟨gg, cgg, bl13.below hb' bl13.lt, owns_below ogr hb' (Nat.le_refl _), bl12.below hb' bl12.lt, hbi.trans (hb'.mono hbi.size), by have := hb'.size; omega⟩)
                clear hun bl13 ogr bl12 hbi
                go_wp2_with fail
                go_roundw
                case rel => exact ⟨m + 1, rfl, by omega, by rw [HK.out]; exact HI.out _ ((Below.refl _ _).alloc (Nat.le_refl _) _)⟩
                case measure => simp [intOf]; omega
              have hund : decide (fr ≤ g.2.2.2) = true := decide_eq_true hun
              have HK : Hid ((y.told.gs.take (m + 1)).filter (runB fr) = L ++ [g]) := Lib.hid (by rw [← HL.out]; exact filter_take_keep HGK.out (by simp [runB, hun]))
              clear hun
              go_upto_region 15 with fail
              refine wp_name ?_
              intro W6 hW6
              have hB6 : Below wr.heap.size wr W6 := by rw [hW6]; exact (Below.refl _ _).alloc (Nat.le_refl _) _
              have k0 : W6.cell? ⟨wr.heap.size, 0, none⟩ = some (.int .i64 g.1.1) := by rw [hW6]; go_simp
              have k1 : W6.cell? ⟨wr.heap.size, 1, none⟩ = some (.int .i64 g.1.2) := by rw [hW6]; go_simp
              have k2 : W6.cell? ⟨wr.heap.size, 2, none⟩ = some (.int .i64 g.2.1) := by rw [hW6]; go_simp
              have k3 : W6.cell? ⟨wr.heap.size, 3, none⟩ = some (.int .i64 g.2.2.1) := by rw [hW6]; go_simp
              have k4 : W6.cell? ⟨wr.heap.size, 4, none⟩ = some (.int .i64 g.2.2.2) := by rw [hW6]; go_simp
              have bl13' := bl13.below hB6 bl13.lt
              have bl12' := bl12.below hB6 bl12.lt
              have og' := owns_below ogr hB6 (Nat.le_refl _)
              have hbi' := hbi.trans (hB6.mono hbi.size)
              have hMw' : Mi ≤ W6.heap.size := by have := hB6.size; omega
              have hxW6 : x13 < W6.heap.size := by omega
              have hzk := cell_block k0
              dsimp only at hzk
              have c13 : W6.cell? ⟨x13, 13, none⟩ = some (.slice gg L.length cgg) := bl13'.cell 13
              have BL13 := Lib.hid bl13'
              have BL12 := Lib.hid bl12'
              have OG := Lib.hid og'
              have HBI := Lib.hid hbi'
              clear hW6 bl13 bl12 ogr hbi hB6 gix g0 g1 g2 g3 g4 bl13' bl12' og' hbi'
              obtain ⟨i0, hi, hz0, hz1, hz2⟩ := info_parts info38
              have hl40 : L.length ≤ 40 := HL40.out
              go_wp2_with (at_builtin; refine wpList_append_own _ rfl _ _ 23 rfl Mi 38 i0 (.agg #[.int .i64 0, .int .i64 0, .int .i64 0, .int .i64 0, .int .i64 0]) 5 40 Try.underlying23 hi hz0 hz1 hz2 rfl (by decide) _ _ _ rfl (OG.out.alloc _) ⟨W6.heap.size, 0, none⟩ 1 1 (grV g) rfl rfl (gr_new W6 g) (grV_one g) (by unfold maxLen; omega) (by omega) (by simp; omega) ?_; intro v' wq hown' hgrow _; obtain ⟨g', cap', rfl⟩ := ownsRow_succ hown'; have e9 := blk_append BL13.out OG.out (by omega) hgrow; have e9c : wq.cell? ⟨x13, 13, none⟩ = some (.slice gg L.length cgg) := e9.cell 13; have e9f := e9.frozen 13; have e9l := e9.lt; have E9 := Lib.hid e9; have OW1 := Lib.hid hown'; have HG := Lib.hid hgrow; clear e9 hown' hgrow)
              go_roundw
              case rel =>
                refine ⟨m + 1, rfl, by omega, ?_⟩
                rw [HK.out]
                refine ⟨some ⟨g', 0, none⟩, cap', ?_, ?_, ?_, ?_, ?_⟩
                · rw [List.length_append, ← nrV_setG2 y gg L.length cgg L]
                  exact E9.out.set 13 _
                · rw [List.map_append, List.flatten_append, List.length_append]
                  simp only [List.map_cons, List.map_nil, List.flatten_cons, List.flatten_nil, List.append_nil, List.length_cons, List.length_nil]
                  exact owns_set OW1.out (by omega)
                · exact (blk_append BL12.out OG.out (by omega) HG.out).other (by omega) _
                · have hxo := HXW.out
                  exact ((HBI.out.alloc (by have := HBI.out.size; omega) _).grown HG.out (by simp; have := HBI.out.size; omega) (fun k e => by have := (OG.out.lt k e).1; omega)).setCell (by simp; omega) _
                · have := HG.out.size
                  simp at this ⊢
                  omega
              case measure => simp [intOf]; omega
            · have hLe : L = y.told.gs.filter (runB fr) := by
                rw [← HL.out, List.take_of_length_le (by have := LY.out; omega)]
              obtain ⟨y', hy'⟩ : ∃ y', setG y gg L.length cgg L = y' := ⟨_, rfl⟩
              rw [hy'] at bl13
              have hpy : plN y' = (y.frame, y.told.src, y.told.us, y.told.gs.filter (runB fr)) := by rw [← hy', ← hLe]; rfl
              have hyu : Rows 4 w3 (.slice y'.told.usesA y'.told.usesL y'.told.usesC) (y'.told.us.map usV) := by rw [← hy']; exact hbok.1
              have hyg2 : wr.ownsRow Mi 38 5 (.slice y'.told.grantsA y'.told.grantsL y'.told.grantsC) y'.told.grantsL (y'.told.gs.map grV).flatten := by rw [← hy']; exact ogr
              have HR13 : Hid (wr.rangeAt x13 0 (nrV y')) := Lib.hid (fun j v hj => by rw [Nat.zero_add, bl13.cell]; simpa using hj)
              have zl13 := bl13.lt
              have own' := owns_below own hbi (Nat.le_refl _)
              have hlat' : ∀ x ∈ lat, Rows 4 w3 (.slice x.told.usesA x.told.usesL x.told.usesC) (x.told.us.map usV) ∧ wr.ownsRow w3.heap.size 38 5 (.slice x.told.grantsA x.told.grantsL x.told.grantsC) x.told.grantsL (x.told.gs.map grV).flatten :=
                fun x hx => ⟨(HLAT.out x hx).1, owns_below (HLAT.out x hx).2 hbi (Nat.le_refl _)⟩
              have hb3 := hb.trans (hbi.mono hb.size)
              have HPY := Lib.hid hpy
              have HYU := Lib.hid hyu
              have HYG := Lib.hid hyg2
              have OWL := Lib.hid own'
              have HLT := Lib.hid hlat'
              have HB3 := Lib.hid hb3
              have hw3wr : w3.heap.size ≤ wr.heap.size := hb3.size
              have hMi3 : w3.heap.size ≤ Mi := by have := HXW.out; omega
              obtain ⟨i0, Z, hi, hz0, hz1, hz2, hzs⟩ := info71_parts
              have hlat70 : lat.length ≤ 70 := by omega
              clear hLe hy' hpy hyu hyg2 own' hlat' hb3 bl13 ogr bl12 hbi HL HL40
              go_wp2_with (first
                | ((with_reducible refine wpList_load_row' ?_ 71 (.tmp 13) ?_ x13 0 ?_ (nrV y') _ HR13.out Try.underlying71 ?_ (info71 y') ?_); rfl; rfl; rfl; rfl)
                | ((with_reducible refine wpList_build71 ?_ (.tmp 72) ?_ y' ?_ ?_); rfl; rfl; rfl)
                | (at_builtin; refine wpList_append_own _ rfl _ _ 27 rfl w3.heap.size 71 i0 Z 31 392 Try.underlying27 hi hz0 hz1 hz2 hzs (by decide) _ _ _ rfl (OWL.out.alloc _) ⟨wr.heap.size, 0, none⟩ 1 1 (nrV y') rfl (nrV_len y') (cells_new wr (nrV y') 71) (nrV_one y') (by unfold maxLen; omega) (by omega) (by simp; omega) ?_; intro v' wq hown' hgrow _; obtain ⟨g', cap', rfl⟩ := ownsRow_succ hown'; have OW1 := Lib.hid hown'; have HG := Lib.hid hgrow; clear hown' hgrow))
              have hal : Below wr.heap.size wr (wr.alloc (.cells (nrV y').toArray 71)) := (Below.refl _ _).alloc (Nat.le_refl _) _
              go_roundw
              case rel =>
                refine ⟨j + 1, rfl, by omega, lat ++ [y'], some ⟨g', 0, none⟩, cap', ?_, by simp; omega, ?_, ?_, ?_, ?_⟩
                · rw [List.length_append]; rfl
                · rw [List.map_append, List.flatten_append, List.length_append]
                  simp only [List.map_cons, List.map_nil, List.flatten_cons, List.flatten_nil, List.append_nil, List.length_cons, List.length_nil]
                  exact OW1.out
                · intro z hz
                  rcases List.mem_append.1 hz with hz | hz
                  · exact ⟨(HLT.out z hz).1, owns_type (owns_below (HLT.out z hz).2 hal (Nat.le_refl _)) (OWL.out.alloc _) (by decide) HG.out⟩
                  · obtain rfl := List.mem_singleton.1 hz
                    exact ⟨HYU.out, owns_type (owns_below (owns_base HYG.out hMi3) hal (Nat.le_refl _)) (OWL.out.alloc _) (by decide) HG.out⟩
                · rw [List.map_append, HT.out, HPL.out]
                  simp [HPY.out]
                · exact (HB3.out.alloc hw3wr _).grown HG.out (by simp; omega) (fun k e => (OWL.out.lt k e).1)
              case measure => simp [intOf]; omega
      · have hjn : j = near.length := by have := HN.out; omega
        have hNok : NearOk wr (.slice ag lat.length cg) lat := by
          refine ⟨owns_rows own _ (by simp) rfl (by intro cs h; obtain ⟨x, _, rfl⟩ := List.mem_map.1 h; rfl), fun x hx => ⟨(HLAT.out x hx).1.below hb (Nat.le_refl _), ?_⟩⟩
          have hog := (HLAT.out x hx).2
          have hgl : x.told.grantsL = (x.told.gs.map grV).length := by
            have h1 := hog.1
            rw [flat_len (k := 5) _ (by intro cs h; obtain ⟨x, _, rfl⟩ := List.mem_map.1 h; rfl)] at h1
            omega
          exact owns_rows hog (x.told.gs.map grV) hgl rfl (by intro cs h; obtain ⟨x, _, rfl⟩ := List.mem_map.1 h; rfl)
        have hplf : lat.map plN = trimL fr near := by
          rw [HPL.out, hjn, List.take_of_length_le (Nat.le_refl _)]
        have hTSw : TS w.heap.size t wr wr := ⟨cell_on hb hTS.1, cell_on hb hTS.2.1, cell_on hb hTS.2.2.1, Below.refl _ _⟩
        have htw := ht3.below hb (Nat.le_refl _)
        have hnw := hnear3.below hb (Nat.le_refl _)
        have hBw := hB3.trans (hb.mono hB3.size)
        clear own hb hjn
        go_wp2_with fail
        go_region_held3 (fun W' => W'.cell? ⟨w.heap.size, 0, none⟩ = some (.slice t.uA t.uL t.uC) ∧ W'.cell? ⟨w.heap.size, 1, none⟩ = some (.slice t.gA t.gL t.gC) ∧ W'.cell? ⟨w.heap.size, 2, none⟩ = some (.slice t.kA t.kL t.kC) ∧ Below wr.heap.size wr W')
          (first | with_reducible assumption | with_reducible exact TS.on hTSw ((Below.refl _ _).drew))
          (first
            | (go_at_call 13; with_reducible refine (yield_kept t me fr a n cap near htw hnw hu40 hg40 (by with_reducible assumption)).mono ?_; rintro e w' ⟨t1, rfl, h1, hS⟩)
            | (go_at_call 13; with_reducible refine (yield_two t me fr ag lat.length cg near lat htw hNok hu40 hg40 hplf h1 (by with_reducible assumption)).mono ?_; rintro e w' ⟨t2, rfl, h2, hS⟩)
            | (go_at_call 18; with_reducible refine (same_two h2 (by with_reducible assumption)).mono ?_; rintro e w' ⟨rfl, hS⟩))
        have hB5 := hBw.trans (hS.2.2.2.mono hBw.size)
        clear hS
        go_wp2_with fail
        go_ret
        exact ⟨rfl, hB5⟩

end Go.Proofs.Ytadiocpcpjbjpaa
