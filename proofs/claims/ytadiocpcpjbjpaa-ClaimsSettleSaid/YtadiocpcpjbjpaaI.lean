import Derived.Test.YtadiocpcpjbjpaaH
namespace Go.Proofs.Ytadiocpcpjbjpaa
open Go.RowKit

/-- A table, as it lies in three cells; 'us', 'gs', 'ks' are what its uses, grants and asks read as. -/
structure Tb where
  uA : Option Addr
  uL : Nat
  uC : Nat
  gA : Option Addr
  gL : Nat
  gC : Nat
  kA : Option Addr
  kL : Nat
  kC : Nat
  us : List Us
  gs : List Gr
  ks : List Ak

def tbV (t : Tb) : List Value := [.slice t.uA t.uL t.uC, .slice t.gA t.gL t.gC, .slice t.kA t.kL t.kC]

/-- The table's slices lie in memory. -/
def TbOk (w : World) (t : Tb) : Prop := Rows 4 w (.slice t.uA t.uL t.uC) (t.us.map usV) ∧ Rows 5 w (.slice t.gA t.gL t.gC) (t.gs.map grV) ∧ Rows 3 w (.slice t.kA t.kL t.kC) (t.ks.map akV)

theorem TbOk.below {n : Nat} {w w' : World} {t : Tb} (h : TbOk w t) (hb : Below n w w') (hn : w.heap.size ≤ n) : TbOk w' t := ⟨h.1.below hb hn, h.2.1.below hb hn, h.2.2.below hb hn⟩

/-- A use, a grant remains. -/
def keepU (fr me : Int) (near : List Nr) (u : Us) : Bool := !((toldL fr u.1 true near).any (beatsB (u.2.2, me)))
def keepG (fr : Int) (near : List Nr) (g : Gr) : Bool := !((toldL fr g.1 false near).any (beatsB (g.2.2.1, g.2.1)))

/-- A cell's two cells, a stamp, and that what lay in 'A' lies on. -/
theorem told_at (a : Option Addr) (n cap : Nat) (near : List Nr) (fr : Int) (c : Cl) (g : Bool) (A W : World) (hn : n = near.length) (hm : n ≤ maxLen) (hnear : NearOk A (.slice a n cap) near) (hA : Below A.heap.size A W) :
    Calls Try.prog 26 #[.slice a n cap, .int .i64 fr, .agg #[.int .i64 c.1, .int .i64 c.2], .bool g] W fun e w' =>
      ∃ lb, e = .returned (.func (.func 31) #[] lb) ∧ Stops Try.prog 31 lb (fun x : Int × Int => #[.agg #[.int .i64 x.1, .int .i64 x.2]]) (toldL fr c g near) w' ∧ Below W.heap.size W w' := by
  refine (told_calls a n cap fr c g W).mono ?_
  rintro e w' ⟨rfl, rfl⟩
  have hB : Below W.heap.size W ((((W.alloc (.cells #[.slice a n cap] 27)).alloc (.cells #[.int .i64 fr] 3)).alloc (.cells #[.int .i64 c.1, .int .i64 c.2] 33)).alloc (.cells #[.bool g] 4)) :=
    ((((Below.refl _ W).alloc (Nat.le_refl _) _).alloc (by simp) _).alloc (by simp; omega) _).alloc (by simp; omega) _
  refine ⟨_, rfl, told_stops _ _ _ _ _ a n cap near fr c g hn hm (by go_simp) (by go_simp) (by go_simp) (by go_simp) (by go_simp) ((hnear.below hA (Nat.le_refl _)).below hB (Nat.le_refl _)), hB⟩

theorem beaten_at (lb : Array Value) (xs : List (Int × Int)) (s p : Int) (W : World)
    (hit : Stops Try.prog 31 lb (fun x : Int × Int => #[.agg #[.int .i64 x.1, .int .i64 x.2]]) xs W) (r : Bool) (hr : xs.any (beatsB (s, p)) = r) :
    Calls Try.prog 25 #[.func (.func 31) #[] lb, .agg #[.int .i64 s, .int .i64 p]] W fun e w' => e = .returned (.bool r) ∧ Below W.heap.size W w' := by
  subst hr
  exact beaten_any lb xs (s, p) W hit

/-- What the test of a use or a grant reads: the cell, and two numbers more; and what lay in 'A' lies on. -/
def Kept4 (A : World) (b i j : Nat) (c : Cl) (x y : Int) (W : World) : Prop :=
  W.cell? ⟨b, 0, none⟩ = some (.int .i64 c.1) ∧ W.cell? ⟨b, 1, none⟩ = some (.int .i64 c.2) ∧ W.cell? ⟨b, i, none⟩ = some (.int .i64 x) ∧ W.cell? ⟨b, j, none⟩ = some (.int .i64 y) ∧ Below A.heap.size A W

theorem Kept4.on {A : World} {b i j : Nat} {c : Cl} {x y : Int} {W W' : World} (h : Kept4 A b i j c x y W) (hb : Below W.heap.size W W') : Kept4 A b i j c x y W' := by
  obtain ⟨h1, h2, h3, h4, h5⟩ := h
  have hc := (bcell hb).1
  have hl := cell_block h1
  exact ⟨(hc _ _ hl).trans h1, (hc _ _ hl).trans h2, (hc _ _ hl).trans h3, (hc _ _ hl).trans h4, h5.trans (hb.mono h5.size)⟩

theorem told_kept (a : Option Addr) (n cap : Nat) (near : List Nr) (fr : Int) (c : Cl) (g : Bool) (A W : World) {b i j : Nat} {x y : Int} (hn : n = near.length) (hm : n ≤ maxLen) (hnear : NearOk A (.slice a n cap) near) (hA : Kept4 A b i j c x y W) :
    Calls Try.prog 26 #[.slice a n cap, .int .i64 fr, .agg #[.int .i64 c.1, .int .i64 c.2], .bool g] W fun e w' =>
      ∃ lb, e = .returned (.func (.func 31) #[] lb) ∧ Stops Try.prog 31 lb (fun x : Int × Int => #[.agg #[.int .i64 x.1, .int .i64 x.2]]) (toldL fr c g near) w' ∧ Kept4 A b i j c x y w' :=
  (told_at a n cap near fr c g A W hn hm hnear hA.2.2.2.2).mono fun _ _ ⟨lb, h1, h2, h3⟩ => ⟨lb, h1, h2, hA.on h3⟩

theorem beaten_kept (lb : Array Value) (xs : List (Int × Int)) (s p : Int) (W : World) {A : World} {b i j : Nat} {c : Cl} {x y : Int}
    (hit : Stops Try.prog 31 lb (fun x : Int × Int => #[.agg #[.int .i64 x.1, .int .i64 x.2]]) xs W) (hA : Kept4 A b i j c x y W) (r : Bool) (hr : xs.any (beatsB (s, p)) = r) :
    Calls Try.prog 25 #[.func (.func 31) #[] lb, .agg #[.int .i64 s, .int .i64 p]] W fun e w' => e = .returned (.bool r) ∧ Kept4 A b i j c x y w' :=
  (beaten_at lb xs s p W hit r hr).mono fun _ _ ⟨h1, h2⟩ => ⟨h1, hA.on h2⟩

theorem info35 : (Try.prog.info? 35).map (fun i => (i.zero, i.size, i.bytes)) = some (some (.agg #[.int .i64 0, .int .i64 0, .int .i64 0, .int .i64 0]), 4, 32) := by kernel_rfl
theorem info38 : (Try.prog.info? 38).map (fun i => (i.zero, i.size, i.bytes)) = some (some (.agg #[.int .i64 0, .int .i64 0, .int .i64 0, .int .i64 0, .int .i64 0]), 5, 40) := by kernel_rfl

theorem filter_take_skip {α : Type} {l : List α} {k : Nat} {x : α} {p : α → Bool} (hx : l[k]? = some x) (h : p x = false) : (l.take (k + 1)).filter p = (l.take k).filter p := by
  rw [List.take_add_one, hx, Option.toList_some, List.filter_append, List.filter_cons_of_neg (by simp [h])]
  simp
theorem filter_take_keep {α : Type} {l : List α} {k : Nat} {x : α} {p : α → Bool} (hx : l[k]? = some x) (h : p x = true) : (l.take (k + 1)).filter p = (l.take k).filter p ++ [x] := by
  rw [List.take_add_one, hx, Option.toList_some, List.filter_append, List.filter_cons_of_pos h]
  simp

theorem us_new (W : World) (x : Us) : ∀ j u, (usV x)[j]? = some u → (W.alloc (.cells #[.int .i64 x.1.1, .int .i64 x.1.2, .int .i64 x.2.1, .int .i64 x.2.2] 35)).cell? ((⟨W.heap.size, 0, none⟩ : Addr).add j) = some u := by
  intro j u h
  rw [Addr.add_mid]
  exact rangeAt_new W (usV x) 35 0 (usV x) (fun j v h => by rw [Nat.zero_add]; exact h) j u h
theorem gr_new (W : World) (x : Gr) : ∀ j u, (grV x)[j]? = some u → (W.alloc (.cells #[.int .i64 x.1.1, .int .i64 x.1.2, .int .i64 x.2.1, .int .i64 x.2.2.1, .int .i64 x.2.2.2] 38)).cell? ((⟨W.heap.size, 0, none⟩ : Addr).add j) = some u := by
  intro j u h
  rw [Addr.add_mid]
  exact rangeAt_new W (grV x) 38 0 (grV x) (fun j v h => by rw [Nat.zero_add]; exact h) j u h
theorem usV_one (x : Us) : ∀ u ∈ usV x, u.oneCell' = true := by
  intro c hc
  simp only [usV, List.mem_cons, List.not_mem_nil, or_false] at hc
  rcases hc with rfl | rfl | rfl | rfl <;> rfl
theorem grV_one (x : Gr) : ∀ u ∈ grV x, u.oneCell' = true := by
  intro c hc
  simp only [grV, List.mem_cons, List.not_mem_nil, or_false] at hc
  rcases hc with rfl | rfl | rfl | rfl | rfl <;> rfl

theorem blk_append {W w1 : World} {b base n : Nat} {cs : Array Value} {T e : TypeId} {size : Nat} {v : Value} {xs : List Value} {o : Obj} (hb : Blk W b cs T) (ho : W.ownsRow base e size v n xs) (hlt : b < base) (hg : (W.alloc o).grownBy w1 v.ownBlock) : Blk w1 b cs T :=
  (hb.alloc o).grown hg (fun h => by have := (ho.lt b h.symm).1; omega)

theorem own_apart {W : World} {M n : Nat} {e : TypeId} {size : Nat} {v u : Value} {xs : List Value} (h : ∀ g, v.ownBlock = some g → g < M) (ho : W.ownsRow M e size u n xs) : v.ownBlock = none ∨ v.ownBlock ≠ u.ownBlock := by
  cases hv : v.ownBlock with
  | none => exact .inl rfl
  | some g =>
    refine .inr (fun e => ?_)
    have h1 := h g hv
    have h2 := (ho.lt g e.symm).1
    omega

/-- What the first loop of Yield keeps. -/
def YieldU (w : World) (t : Tb) (us : List Us) (wr : World) : Prop :=
  ∃ (av : Option Addr) (cv : Nat), Blk wr (w.heap.size + 1 + 1) #[.slice av us.length cv, .slice none 0 0, .slice t.kA t.kL t.kC] 26 ∧
    wr.ownsRow (w.heap.size + 3) 35 4 (.slice av us.length cv) us.length (us.map usV).flatten ∧ Blk wr w.heap.size (tbV t).toArray 26 ∧ Blk wr (w.heap.size + 1) #[.slice none 0 0, .slice none 0 0, .slice none 0 0] 26 ∧
    Below w.heap.size w wr ∧ w.heap.size + 3 ≤ wr.heap.size

/-- What the second loop of Yield keeps. -/
def YieldG (w : World) (t : Tb) (M : Nat) (us : List Us) (gs : List Gr) (wr : World) : Prop :=
  ∃ (av : Option Addr) (cv : Nat) (ag : Option Addr) (cg : Nat), Blk wr (w.heap.size + 1 + 1) #[.slice av us.length cv, .slice ag gs.length cg, .slice t.kA t.kL t.kC] 26 ∧
    wr.ownsRow (w.heap.size + 3) 35 4 (.slice av us.length cv) us.length (us.map usV).flatten ∧ (∀ g, (Value.slice av us.length cv).ownBlock = some g → g < M) ∧
    wr.ownsRow M 38 5 (.slice ag gs.length cg) gs.length (gs.map grV).flatten ∧ Blk wr w.heap.size (tbV t).toArray 26 ∧ Blk wr (w.heap.size + 1) #[.slice none 0 0, .slice none 0 0, .slice none 0 0] 26 ∧
    Below w.heap.size w wr ∧ w.heap.size + 3 ≤ M ∧ M ≤ wr.heap.size

/-- What Yield answers. -/
def YieldRes (w : World) (t : Tb) (fr me : Int) (near : List Nr) (e : Ending) (w' : World) : Prop :=
  ∃ t' : Tb, e = .returned (.agg #[.slice t'.uA t'.uL t'.uC, .slice t'.gA t'.gL t'.gC, .slice t'.kA t'.kL t'.kC]) ∧ TbOk w' t' ∧ t'.us = t.us.filter (keepU fr me near) ∧ t'.gs = t.gs.filter (keepG fr near) ∧ t'.ks = t.ks ∧ Below w.heap.size w w'

set_option maxRecDepth 100000 in
set_option maxHeartbeats 1000000 in
theorem yield_any (t : Tb) (me fr : Int) (a : Option Addr) (n cap : Nat) (near : List Nr) (w : World) (hm : n ≤ maxLen) (hn : n = near.length) (ht : TbOk w t) (hnear : NearOk w (.slice a n cap) near)
    (hu : t.uL ≤ 100000) (hg : t.gL ≤ 100000) :
    Calls Try.prog 13 #[.agg #[.slice t.uA t.uL t.uC, .slice t.gA t.gL t.gC, .slice t.kA t.kL t.kC], .int .i64 me, .slice a n cap, .int .i64 fr] w (YieldRes w t fr me near) := by
  obtain ⟨htu, htg, htk⟩ := ht
  have HN := Lib.hid hn
  have LU := Lib.hid htu.length.1
  have LG := Lib.hid htg.length.1
  clear hn
  go_enter Try.func13, Try.ntmps13
  go_wp2_with fail
  refine wp_name ?_
  intro W0 hW0
  have hY0 : YieldU w t [] W0 := by
    rw [hW0]
    refine ⟨none, 0, ?_, World.ownsRow_nil _ _ _ _, ?_, ?_, ?_, ?_⟩
    · simpa using Blk.new (((w.alloc _).alloc _)) _ _
    · exact ((Blk.new w _ _).alloc _).alloc _
    · simpa using (Blk.new (w.alloc _) _ _).alloc _
    · exact (((Below.refl _ w).alloc (Nat.le_refl _) _).alloc (by simp) _).alloc (by simp; omega) _
    · simp
  clear hW0
  go_loopw [20] (fun i wr => ∃ k : Nat, i = .int .i64 k ∧ k ≤ t.uL ∧ YieldU w t ((t.us.take k).filter (keepU fr me near)) wr) (fun i _ => t.uL - (intOf i).toNat)
  case atStart => exact ⟨0, rfl, by omega, by simpa using hY0⟩
  case round =>
    obtain ⟨k, rfl, hk, hY⟩ := hrel
    obtain ⟨L, hL⟩ : ∃ L, (t.us.take k).filter (keepU fr me near) = L := ⟨_, rfl⟩
    rw [hL] at hY
    obtain ⟨av, cv, b9, own, b4, b8, hB, hz⟩ := hY
    have HL := Lib.hid hL
    clear hL
    by_cases hlt : k < t.uL
    · obtain ⟨x, hxk⟩ : ∃ x, t.us[k]? = some x := ⟨t.us[k]'(by have := LU.out; simp at this; omega), List.getElem?_eq_getElem _⟩
      obtain ⟨b, off, hix, d0, d1, d2, d3⟩ := us_at (htu.below hB (Nat.le_refl _)) hxk
      go_wp2_with fail
      refine wp_name ?_
      intro W1 hW1
      have s0 : W1.cell? ⟨wr.heap.size, 0, none⟩ = some (.int .i64 x.1.1) := by rw [hW1]; go_simp
      have s1 : W1.cell? ⟨wr.heap.size, 1, none⟩ = some (.int .i64 x.1.2) := by rw [hW1]; go_simp
      have s3 : W1.cell? ⟨wr.heap.size, 3, none⟩ = some (.int .i64 x.2.2) := by rw [hW1]; go_simp
      have s2 : W1.cell? ⟨wr.heap.size, 2, none⟩ = some (.int .i64 x.2.1) := by rw [hW1]; go_simp
      have hB1 : Below wr.heap.size wr W1 := by rw [hW1]; exact (Below.refl _ _).alloc (Nat.le_refl _) _
      have hB01 : Below w.heap.size w W1 := hB.trans (hB1.mono (by omega))
      have hnear1 := hnear.below hB01 (Nat.le_refl _)
      have z1 : wr.heap.size < W1.heap.size := by rw [hW1]; simp
      clear hW1 hix d0 d1 d2 d3
      obtain ⟨r, hr⟩ : ∃ r, (toldL fr x.1 true near).any (beatsB (x.2.2, me)) = r := ⟨_, rfl⟩
      have HR := Lib.hid hr
      have HX := Lib.hid hxk
      clear hr hxk
      go_region_held3 (fun W' => W'.cell? ⟨wr.heap.size, 0, none⟩ = some (.int .i64 x.1.1) ∧ W'.cell? ⟨wr.heap.size, 1, none⟩ = some (.int .i64 x.1.2) ∧ W'.cell? ⟨wr.heap.size, 3, none⟩ = some (.int .i64 x.2.2) ∧ W'.cell? ⟨wr.heap.size, 2, none⟩ = some (.int .i64 x.2.1) ∧ Below W1.heap.size W1 W')
        (first | exact ⟨s0, s1, s3, s2, (Below.refl _ _).drew⟩ | assumption)
        (first
          | (go_at_call 26; refine (told_kept a n cap near fr x.1 true W1 _ (b := wr.heap.size) (i := 3) (j := 2) (x := x.2.2) (y := x.2.1) HN.out hm hnear1 (by assumption)).mono ?_; rintro e w' ⟨lb, rfl, hstops, hS⟩)
          | (go_at_call 25; refine (beaten_kept _ _ x.2.2 me _ hstops (by assumption) r HR.out).mono ?_; rintro e w' ⟨rfl, hS⟩))
      obtain ⟨t0, t1, t3, t2, hb2⟩ := hS
      obtain ⟨W2, hW2⟩ : ∃ W2 : World, W2 = w' := ⟨_, rfl⟩
      subst hW2
      have hbw : Below wr.heap.size wr W2 := hB1.trans (hb2.mono (by omega))
      have b9' := b9.below hbw b9.lt
      have own' := owns_below own hbw (Nat.le_refl _)
      have b4' := b4.below hbw b4.lt
      have b8' := b8.below hbw b8.lt
      have hB' : Below w.heap.size w W2 := hB.trans (hbw.mono (by omega))
      have hz' : w.heap.size + 3 ≤ W2.heap.size := by have := hbw.size; omega
      clear b9 own b4 b8 hB hbw hstops hb2
      cases r with
      | true =>
        have HK : Hid ((t.us.take (k + 1)).filter (keepU fr me near) = L) := by rw [← HL.out]; exact filter_take_skip HX.out (by simp [keepU, HR.out])
        go_wp2_with fail
        go_roundw
        case rel => exact ⟨k + 1, rfl, by omega, by rw [HK.out]; exact ⟨av, cv, b9', own', b4', b8', hB', hz'⟩⟩
        case measure => simp [intOf]; omega
      | false =>
        have HK : Hid ((t.us.take (k + 1)).filter (keepU fr me near) = L ++ [x]) := by rw [← HL.out]; exact filter_take_keep HX.out (by simp [keepU, HR.out])
        have hlen : L.length ≤ 100000 := by rw [← HL.out]; exact Nat.le_trans (List.length_filter_le _ _) (by rw [List.length_take]; omega)
        obtain ⟨i0, hi, hz0, hz1, hz2⟩ := info_parts info35
        have c9 := b9'.cell 0
        simp only [List.getElem?_toArray, List.getElem?_cons_zero] at c9
        have B9 := Lib.hid b9'
        have OW := Lib.hid own'
        have B4 := Lib.hid b4'
        have B8 := Lib.hid b8'
        clear b9' own' b4' b8'
        go_wp2_with (at_builtin; refine wpList_append_own _ rfl _ _ 22 rfl (w.heap.size + 3) 35 i0 (.agg #[.int .i64 0, .int .i64 0, .int .i64 0, .int .i64 0]) 4 32 Try.underlying22 hi hz0 hz1 hz2 rfl (by decide) _ _ _ rfl (OW.out.alloc _) ⟨W2.heap.size, 0, none⟩ 1 1 (usV x) rfl rfl (us_new W2 x) (usV_one x) (by unfold maxLen; omega) (by omega) (by simp; omega) ?_; intro v' w1 hown' hgrow _; obtain ⟨g', cap', rfl⟩ := ownsRow_succ hown'; have e9 := blk_append B9.out OW.out (by omega) hgrow; have e9c := e9.cell 0; have e9f := e9.frozen 0; have E9 := Lib.hid e9; have OW1 := Lib.hid hown'; have HG := Lib.hid hgrow; clear e9 hown' hgrow; simp only [List.getElem?_toArray, List.getElem?_cons_zero] at e9c)
        go_roundw
        case rel =>
          refine ⟨k + 1, rfl, by omega, ?_⟩
          rw [HK.out]
          refine ⟨some ⟨g', 0, none⟩, cap', ?_, ?_, ?_, ?_, ?_, ?_⟩
          · rw [List.length_append]
            exact E9.out.set 0 _
          · rw [List.map_append, List.flatten_append, List.length_append]
            simp only [List.map_cons, List.map_nil, List.flatten_cons, List.flatten_nil, List.append_nil, List.length_cons, List.length_nil]
            exact owns_set OW1.out (by omega)
          · exact (blk_append B4.out OW.out (by omega) HG.out).other (by omega) _
          · exact (blk_append B8.out OW.out (by omega) HG.out).other (by omega) _
          · exact ((hB'.alloc (by omega) _).grown HG.out (by simp; omega) (fun k e => by have := (OW.out.lt k e).1; omega)).setCell (by simp; omega) _
          · have := HG.out.size
            simp at this ⊢
            omega
        case measure => simp [intOf]; omega
    · have hL : L = t.us.filter (keepU fr me near) := by
        rw [← HL.out, List.take_of_length_le (by have := LU.out; simp at this; omega)]
      have HLU := Lib.hid hL
      clear hL HL
      have hY : YieldG w t wr.heap.size L [] wr := ⟨av, cv, none, 0, b9, own, fun g hg => (own.lt g hg).2, World.ownsRow_nil _ _ _ _, b4, b8, hB, hz, Nat.le_refl _⟩
      have c4 := b4.cell 1
      simp only [tbV, List.getElem?_toArray, List.getElem?_cons_zero, List.getElem?_cons_succ] at c4
      clear b9 own b4 b8 hB hz
      go_wp2_with fail
      obtain ⟨M, hM⟩ : ∃ M, wr.heap.size = M := ⟨_, rfl⟩
      rw [hM] at hY
      clear hM c4
      obtain ⟨wo, rfl⟩ : ∃ wo : World, wo = wr := ⟨_, rfl⟩
      go_loopw [45] (fun i wr => ∃ k : Nat, i = .int .i64 k ∧ k ≤ t.gL ∧ YieldG w t M L ((t.gs.take k).filter (keepG fr near)) wr) (fun i _ => t.gL - (intOf i).toNat)
      case atStart => exact ⟨0, rfl, by omega, by simpa using hY⟩
      case round =>
        clear hY
        obtain ⟨k2, rfl, hk2, hY⟩ := hrel
        obtain ⟨K, hK⟩ : ∃ K, (t.gs.take k2).filter (keepG fr near) = K := ⟨_, rfl⟩
        rw [hK] at hY
        obtain ⟨av, cv, ag, cg, b9, own, hlM, owng, b4, b8, hB, hM3, hM4⟩ := hY
        have HK0 := Lib.hid hK
        clear hK
        by_cases hlt2 : k2 < t.gL
        · obtain ⟨x, hxk⟩ : ∃ x, t.gs[k2]? = some x := ⟨t.gs[k2]'(by have := LG.out; simp at this; omega), List.getElem?_eq_getElem _⟩
          obtain ⟨b, off, hix, d0, d1, d2, d3, d4⟩ := gr_at (htg.below hB (Nat.le_refl _)) hxk
          go_wp2_with fail
          refine wp_name ?_
          intro W1 hW1
          have s0 : W1.cell? ⟨wr.heap.size, 0, none⟩ = some (.int .i64 x.1.1) := by rw [hW1]; go_simp
          have s1 : W1.cell? ⟨wr.heap.size, 1, none⟩ = some (.int .i64 x.1.2) := by rw [hW1]; go_simp
          have s3 : W1.cell? ⟨wr.heap.size, 3, none⟩ = some (.int .i64 x.2.2.1) := by rw [hW1]; go_simp
          have s2 : W1.cell? ⟨wr.heap.size, 2, none⟩ = some (.int .i64 x.2.1) := by rw [hW1]; go_simp
          have s4 : Blk W1 wr.heap.size (grV x).toArray 38 := by rw [hW1]; exact Blk.new _ _ _
          have hB1 : Below wr.heap.size wr W1 := by rw [hW1]; exact (Below.refl _ _).alloc (Nat.le_refl _) _
          have hB01 : Below w.heap.size w W1 := hB.trans (hB1.mono (by omega))
          have hnear1 := hnear.below hB01 (Nat.le_refl _)
          have z1 : wr.heap.size < W1.heap.size := by rw [hW1]; simp
          have S4 := Lib.hid s4
          clear hW1 hix d0 d1 d2 d3 d4 s4
          obtain ⟨r, hr⟩ : ∃ r, (toldL fr x.1 false near).any (beatsB (x.2.2.1, x.2.1)) = r := ⟨_, rfl⟩
          have HR := Lib.hid hr
          have HX := Lib.hid hxk
          clear hr hxk
          go_region_held3 (fun W' => W'.cell? ⟨wr.heap.size, 0, none⟩ = some (.int .i64 x.1.1) ∧ W'.cell? ⟨wr.heap.size, 1, none⟩ = some (.int .i64 x.1.2) ∧ W'.cell? ⟨wr.heap.size, 3, none⟩ = some (.int .i64 x.2.2.1) ∧ W'.cell? ⟨wr.heap.size, 2, none⟩ = some (.int .i64 x.2.1) ∧ Below W1.heap.size W1 W')
            (first | exact ⟨s0, s1, s3, s2, (Below.refl _ _).drew⟩ | assumption)
            (first
              | (go_at_call 26; refine (told_kept a n cap near fr x.1 false W1 _ (b := wr.heap.size) (i := 3) (j := 2) (x := x.2.2.1) (y := x.2.1) HN.out hm hnear1 (by assumption)).mono ?_; rintro e w' ⟨lb, rfl, hstops, hS⟩)
              | (go_at_call 25; refine (beaten_kept _ _ x.2.2.1 x.2.1 _ hstops (by assumption) r HR.out).mono ?_; rintro e w' ⟨rfl, hS⟩))
          obtain ⟨t0, t1, t3, t2, hb2⟩ := hS
          obtain ⟨W2, hW2⟩ : ∃ W2 : World, W2 = w' := ⟨_, rfl⟩
          subst hW2
          have hbw : Below wr.heap.size wr W2 := hB1.trans (hb2.mono (by omega))
          have b9' := b9.below hbw b9.lt
          have own' := owns_below own hbw (Nat.le_refl _)
          have owng' := owns_below owng hbw (Nat.le_refl _)
          have b4' := b4.below hbw b4.lt
          have b8' := b8.below hbw b8.lt
          have t4 : W2.cell? ⟨wr.heap.size, 4, none⟩ = some (.int .i64 x.2.2.2) := by
            have h := (S4.out.below hb2 z1).cell 4
            simpa [grV] using h
          have hB' : Below w.heap.size w W2 := hB.trans (hbw.mono (by omega))
          have hM' : M ≤ W2.heap.size := by have := hbw.size; omega
          clear b9 own owng b4 b8 hB hbw hstops hb2
          cases r with
          | true =>
            have HK : Hid ((t.gs.take (k2 + 1)).filter (keepG fr near) = K) := by rw [← HK0.out]; exact filter_take_skip HX.out (by simp [keepG, HR.out])
            go_wp2_with fail
            go_roundw
            case rel => exact ⟨k2 + 1, rfl, by omega, by rw [HK.out]; exact ⟨av, cv, ag, cg, b9', own', hlM, owng', b4', b8', hB', hM3, hM'⟩⟩
            case measure => simp [intOf]; omega
          | false =>
            have HK : Hid ((t.gs.take (k2 + 1)).filter (keepG fr near) = K ++ [x]) := by rw [← HK0.out]; exact filter_take_keep HX.out (by simp [keepG, HR.out])
            have hlen : K.length ≤ 100000 := by rw [← HK0.out]; exact Nat.le_trans (List.length_filter_le _ _) (by rw [List.length_take]; omega)
            obtain ⟨i0, hi, hz0, hz1, hz2⟩ := info_parts info38
            have c9 := b9'.cell 1
            simp only [List.getElem?_toArray, List.getElem?_cons_zero, List.getElem?_cons_succ] at c9
            have B9 := Lib.hid b9'
            have OU := Lib.hid own'
            have OW := Lib.hid owng'
            have B4 := Lib.hid b4'
            have B8 := Lib.hid b8'
            have HLM := Lib.hid hlM
            clear b9' own' owng' b4' b8' hlM
            go_wp2_with (at_builtin; refine wpList_append_own _ rfl _ _ 23 rfl M 38 i0 (.agg #[.int .i64 0, .int .i64 0, .int .i64 0, .int .i64 0, .int .i64 0]) 5 40 Try.underlying23 hi hz0 hz1 hz2 rfl (by decide) _ _ _ rfl (OW.out.alloc _) ⟨W2.heap.size, 0, none⟩ 1 1 (grV x) rfl rfl (gr_new W2 x) (grV_one x) (by unfold maxLen; omega) (by omega) (by simp; omega) ?_; intro v' w1 hown' hgrow _; obtain ⟨g', cap', rfl⟩ := ownsRow_succ hown'; have e9 := blk_append B9.out OW.out (by omega) hgrow; have e9c := e9.cell 1; have e9f := e9.frozen 1; have E9 := Lib.hid e9; have OW1 := Lib.hid hown'; have HG := Lib.hid hgrow; clear e9 hown' hgrow; simp only [List.getElem?_toArray, List.getElem?_cons_zero, List.getElem?_cons_succ] at e9c)
            go_roundw
            case rel =>
              refine ⟨k2 + 1, rfl, by omega, ?_⟩
              rw [HK.out]
              refine ⟨av, cv, some ⟨g', 0, none⟩, cap', ?_, ?_, HLM.out, ?_, ?_, ?_, ?_, hM3, ?_⟩
              · rw [List.length_append]
                exact E9.out.set 1 _
              · exact owns_set ((OU.out.alloc _).kept HG.out (own_apart HLM.out OW.out)) (by omega)
              · rw [List.map_append, List.flatten_append, List.length_append]
                simp only [List.map_cons, List.map_nil, List.flatten_cons, List.flatten_nil, List.append_nil, List.length_cons, List.length_nil]
                exact owns_set OW1.out (by omega)
              · exact (blk_append B4.out OW.out (by omega) HG.out).other (by omega) _
              · exact (blk_append B8.out OW.out (by omega) HG.out).other (by omega) _
              · exact ((hB'.alloc (by omega) _).grown HG.out (by simp; omega) (fun k e => by have := (OW.out.lt k e).1; omega)).setCell (by simp; omega) _
              · have := HG.out.size
                simp at this ⊢
                omega
            case measure => simp [intOf]; omega
        · have hKe : K = t.gs.filter (keepG fr near) := by
            rw [← HK0.out, List.take_of_length_le (by have := LG.out; simp at this; omega)]
          have e0 := b9.cell 0
          have e1 := b9.cell 1
          have e2 := b9.cell 2
          have q0 := b8.cell 0
          have q1 := b8.cell 1
          have q2 := b8.cell 2
          have f0 := b8.frozen 0
          have f1 := b8.frozen 1
          have f2 := b8.frozen 2
          simp only [List.getElem?_toArray, List.getElem?_cons_zero, List.getElem?_cons_succ] at e0 e1 e2 q0 q1 q2
          have HKE := Lib.hid hKe
          have OU := Lib.hid own
          have OW := Lib.hid owng
          have B9 := Lib.hid b9
          have HB := Lib.hid hB
          clear hKe own owng b9 b4 hlM hB
          have B8 := Lib.hid b8
          clear b8
          go_wp2_with fail
          have bF := ((B8.out.set 0 (.slice av L.length cv)).set 1 (.slice ag K.length cg)).set 2 (.slice t.kA t.kL t.kC)
          have r0 := bF.cell 0
          have r1 := bF.cell 1
          have r2 := bF.cell 2
          have hBF : Below w.heap.size w (((wr.setCell ⟨w.heap.size + 1, 0, none⟩ (.slice av L.length cv)).setCell ⟨w.heap.size + 1, 1, none⟩ (.slice ag K.length cg)).setCell ⟨w.heap.size + 1, 2, none⟩ (.slice t.kA t.kL t.kC)) :=
            ((HB.out.setCell (by simp) _).setCell (by simp) _).setCell (by simp) _
          have oU := owns_set (b := w.heap.size + 1) (j := 2) (u := .slice t.kA t.kL t.kC) (owns_set (b := w.heap.size + 1) (j := 1) (u := .slice ag K.length cg) (owns_set (b := w.heap.size + 1) (j := 0) (u := .slice av L.length cv) OU.out (by omega)) (by omega)) (by omega)
          have oG := owns_set (b := w.heap.size + 1) (j := 2) (u := .slice t.kA t.kL t.kC) (owns_set (b := w.heap.size + 1) (j := 1) (u := .slice ag K.length cg) (owns_set (b := w.heap.size + 1) (j := 0) (u := .slice av L.length cv) OW.out (by omega)) (by omega)) (by omega)
          refine bodyPost_ret (v := .agg #[.slice av L.length cv, .slice ag K.length cg, .slice t.kA t.kL t.kC]) ?_ rfl ⟨⟨av, L.length, cv, ag, K.length, cg, t.kA, t.kL, t.kC, L, K, t.ks⟩, rfl, ⟨?_, ?_, ?_⟩, HLU.out, HKE.out, rfl, hBF⟩
          · simp only [List.getElem?_toArray, List.getElem?_cons_zero, List.getElem?_cons_succ, List.setIfInBounds_toArray, List.set_cons_zero, List.set_cons_succ] at r0 r1 r2
            simp [results, Try.results13, go_sem, r0, r1, r2]
          · exact owns_rows oU (L.map usV) (by simp) rfl (by intro cs h; obtain ⟨x, _, rfl⟩ := List.mem_map.1 h; rfl)
          · exact owns_rows oG (K.map grV) (by simp) rfl (by intro cs h; obtain ⟨x, _, rfl⟩ := List.mem_map.1 h; rfl)
          · exact htk.below hBF (Nat.le_refl _)

end Go.Proofs.Ytadiocpcpjbjpaa
