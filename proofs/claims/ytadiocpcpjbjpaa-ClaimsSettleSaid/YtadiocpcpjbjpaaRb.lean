import Derived.Test.YtadiocpcpjbjpaaRa
import Derived.Test.YtadiocpcpjbjpaaPb
namespace Go.Proofs.Ytadiocpcpjbjpaa
open Go.RowKit

theorem wpOp_skip {P : Program} {ops : Array Oper} {Q : Exit → Act → World → Prop} {i : Nat} {o : Oper} {a : Act} {w w' : World} {K : Act → World → Prop} (ho : ops[i]? = some o) (hg : o.guard = none)
    (hr : (execOp a.eval o).run P w = .ok .skip w') (h : K (a.put o.dst undef) w') : wpOp P ops Q i K a w := by
  have hw : Region.wanted o (yielded ops a.tmps) = true := by simp [Region.wanted, hg]
  simp only [wpOp, ho, hw, if_true]
  refine Or.inl ?_
  unfold Oper.wp
  rw [hr]
  exact h

/-- All is as it was, but for some blocks. -/
structure Kept (W : World) (ex : Nat → Prop) (w : World) : Prop where
  os : w.os = W.os
  tape : w.tape = W.tape
  output : w.output = W.output
  size : W.heap.size ≤ w.heap.size
  block : ∀ k, k < W.heap.size → ¬ ex k → w.heap[k]? = W.heap[k]?
theorem Kept.below {W w : World} {ex : Nat → Prop} (h : Kept W ex w) {w0 : World} {n : Nat} (h0 : Below n w0 W) (hn : n ≤ W.heap.size) (he : ∀ k, k < n → ¬ ex k) : Below n w0 w :=
  ⟨h.os.trans h0.os, h.tape.trans h0.tape, h.output.trans h0.output, Nat.le_trans h0.size h.size, fun k hk => (h.block k (by omega) (he k hk)).trans (h0.block k hk)⟩
theorem Kept.on {W w w' : World} {ex : Nat → Prop} (h : Kept W ex w) (hb : Below w.heap.size w w') : Kept W ex w' :=
  ⟨hb.os.trans h.os, hb.tape.trans h.tape, hb.output.trans h.output, Nat.le_trans h.size hb.size, fun k hk he => (hb.block k (by have := h.size; omega)).trans (h.block k hk he)⟩
theorem Kept.grow {W w w' : World} {ex : Nat → Prop} {row : Option Nat} (h : Kept W ex w) (hg : w.grownBy w' row) (he : ∀ k, row = some k → k < W.heap.size → ex k) : Kept W ex w' :=
  ⟨hg.os.trans h.os, hg.tape.trans h.tape, hg.output.trans h.output, Nat.le_trans h.size hg.size, fun k hk hx => (hg.block k (by have := h.size; omega) (fun e => hx (he k e.symm hk))).trans (h.block k hk hx)⟩
theorem Kept.setCell {W w : World} {ex : Nat → Prop} {b j : Nat} {v : Value} (h : Kept W ex w) (he : ex b) : Kept W ex (w.setCell ⟨b, j, none⟩ v) :=
  ⟨h.os, h.tape, h.output, by simpa using h.size, fun k hk hx => (Below.heap_setCell _ _ _ _ (by rintro rfl; exact hx he)).trans (h.block k hk hx)⟩
theorem Kept.blk {W w : World} {ex : Nat → Prop} {b : Nat} {cs : Array Value} {T : TypeId} (h : Kept W ex w) (hb : Blk W b cs T) (he : ¬ ex b) : Blk w b cs T := (h.block b hb.lt he).trans hb

theorem zero35 (W : World) : (zeroValue 35).run Try.prog W = .ok (.agg #[.int .i64 0, .int .i64 0, .int .i64 0, .int .i64 0]) W := by kernel_rfl
theorem zero38 (W : World) : (zeroValue 38).run Try.prog W = .ok (.agg #[.int .i64 0, .int .i64 0, .int .i64 0, .int .i64 0, .int .i64 0]) W := by kernel_rfl

theorem wpOp_buildRow {ops : Array Oper} {Q : Exit → Act → World → Prop} {k : Nat} {o : Oper} {a : Act} {w : World} {K : Act → World → Prop} (hoi : ops[k]? = some o) (hg : o.guard = none) (T e : TypeId) (s : Nat) (z : Value) (y : Operand)
    (ho : o.op = .buildSlice T 1 #[(0, y)]) (cs : Array Value) (hT : Try.prog.underlying T = some (.slice e)) (hs : ∀ W, (sizeOf e).run Try.prog W = .ok s W) (hz : ∀ W, (zeroValue e).run Try.prog W = .ok z W) (h0 : 0 < s) (hm : s ≤ 1000) (hc : cs.size = s)
    (hy : a.eval y = .agg cs) (h : K (a.put o.dst (.slice (some ⟨w.heap.size, 0, none⟩) 1 1)) (w.alloc (.cells cs e))) : wpOp Try.prog ops Q k K a w := by
  have hr := run_buildSlice_one (P := Try.prog) w T e s z cs hT hs hz h0 hm hc
  refine wpOp_val (v := .slice (some ⟨w.heap.size, 0, none⟩) 1 1) (w' := w.alloc (.cells cs e)) hoi hg ?_ h
  unfold execOp
  simp only [ho, List.map_toArray, List.map_cons, List.map_nil, hy, hr, Sem.run_bind, Sem.run_pure, Result.andThen_ok]

theorem cells_new (W : World) (cs : List Value) (T : TypeId) : ∀ j u, cs[j]? = some u → (W.alloc (.cells cs.toArray T)).cell? ((⟨W.heap.size, 0, none⟩ : Addr).add j) = some u := by
  intro j u hj
  rw [Addr.add_mid]
  exact rangeAt_new W cs T 0 cs (fun j v h => by rw [Nat.zero_add]; exact h) j u hj

/-- What each operation of 'out.Xs = append(out.Xs, x)' leaves: 's' is the first slot, 'b9' the table's block, 'fld' the field. -/
def eatY : Nat → Nat
  | 8 => 10
  | 11 => 10
  | 12 => 8
  | _ => 99
def pvY (s M b9 b4 fld e size : Nat) (cs : Array Value) (av : Option Addr) (L cv : Nat) (uv iv pv xv : Value) (xs news : List Value) : Nat → (Nat → Value) → World → Prop
  | 0, f, _ => f s = .pointer (some ⟨b9, fld, none⟩)
  | 1, f, _ => f (s + 1) = .slice av L cv
  | 2, f, _ => f (s + 2) = .pointer (some ⟨b4, fld, none⟩)
  | 3, f, _ => f (s + 3) = uv
  | 4, f, _ => f (s + 4) = iv
  | 5, f, _ => f (s + 5) = pv
  | 6, f, _ => f (s + 6) = xv
  | 7, f, w => ∃ g, f (s + 7) = .slice (some ⟨g, 0, none⟩) 1 1 ∧ g ≠ b9 ∧ (Value.slice av L cv).ownBlock ≠ some g ∧ ∀ j u, news[j]? = some u → w.cell? ((⟨g, 0, none⟩ : Addr).add j) = some u
  | 8, f, w => w.ownsRow M e size (f (s + 8)) (L + 1) (xs ++ news)
  | 9, f, _ => f (s + 9) = .pointer (some ⟨b9, fld, none⟩)
  | 10, f, w => Blk w b9 (cs.setIfInBounds fld (f (s + 8))) 26 ∧ w.ownsRow M e size (f (s + 8)) (L + 1) (xs ++ news)
  | 11, _, w => Blk w b9 cs 26
  | 12, _, w => w.ownsRow M e size (.slice av L cv) L xs
  | _, _, _ => True
def slY (s j : Nat) : List Nat := if j = 10 then [s + 8] else if j < 10 then [s + j] else []

section
variable {s M b9 b4 fld e size : Nat} {cs : Array Value} {av : Option Addr} {L cv : Nat} {uv iv pv xv : Value} {xs news : List Value} {j : Nat} {f g : Nat → Value} {w w' : World}
theorem pvY_congr (h : ∀ x ∈ slY s j, f x = g x) (hp : pvY s M b9 b4 fld e size cs av L cv uv iv pv xv xs news j f w) : pvY s M b9 b4 fld e size cs av L cv uv iv pv xv xs news j g w := by
  rcases j with _ | _ | _ | _ | _ | _ | _ | _ | _ | _ | _ | _ | _ | j
  all_goals first
    | exact hp
    | (have e := h _ List.mem_cons_self; simp only [pvY] at hp ⊢; (try simp only [Nat.add_zero, Nat.zero_add, Nat.reduceAdd] at e); rw [← e]; exact hp)
    | exact trivial
theorem pvY_below (hb : Below w.heap.size w w') (hp : pvY s M b9 b4 fld e size cs av L cv uv iv pv xv xs news j f w) : pvY s M b9 b4 fld e size cs av L cv uv iv pv xv xs news j f w' := by
  rcases j with _ | _ | _ | _ | _ | _ | _ | _ | _ | _ | _ | _ | _ | j
  all_goals simp only [pvY] at hp ⊢
  all_goals first
    | exact hp
    | exact owns_below hp hb (Nat.le_refl _)
    | exact ⟨hp.1.below hb hp.1.lt, owns_below hp.2 hb (Nat.le_refl _)⟩
    | exact hp.below hb hp.lt
    | (obtain ⟨g, h1, h2, h3, h4⟩ := hp; exact ⟨g, h1, h2, h3, fun j u hj => cell_on hb (h4 j u hj)⟩)
    | trivial
theorem pvY_grow (hg : w.grownBy w' (Value.slice av L cv).ownBlock) (hj : j ≠ 8 ∧ j ≠ 10 ∧ j ≠ 12) (h9 : (Value.slice av L cv).ownBlock ≠ some b9) (hp : pvY s M b9 b4 fld e size cs av L cv uv iv pv xv xs news j f w) : pvY s M b9 b4 fld e size cs av L cv uv iv pv xv xs news j f w' := by
  rcases j with _ | _ | _ | _ | _ | _ | _ | _ | _ | _ | _ | _ | _ | j
  all_goals simp only [pvY] at hp ⊢
  all_goals first
    | exact hp
    | omega
    | exact hp.grown hg (fun e => h9 e.symm)
    | (obtain ⟨g, h1, h2, h3, h4⟩ := hp; refine ⟨g, h1, h2, h3, fun j u hj => ?_⟩; have h5 := h4 j u hj; rw [Addr.add_mid] at h5 ⊢; exact hg.cell h5 (fun e => h3 e.symm))
    | trivial
theorem pvY_set (v : Value) (h9 : b9 < M) (hj : j ≠ 8 ∧ j ≠ 10 ∧ j ≠ 11) (hp : pvY s M b9 b4 fld e size cs av L cv uv iv pv xv xs news j f w) : pvY s M b9 b4 fld e size cs av L cv uv iv pv xv xs news j f (w.setCell ⟨b9, fld, none⟩ v) := by
  rcases j with _ | _ | _ | _ | _ | _ | _ | _ | _ | _ | _ | _ | _ | j
  all_goals simp only [pvY] at hp ⊢
  all_goals first
    | exact hp
    | omega
    | exact owns_set hp h9
    | (obtain ⟨g, h1, h2, h3, h4⟩ := hp; refine ⟨g, h1, h2, h3, fun j u hj => ?_⟩; have h5 := h4 j u hj; rw [Addr.add_mid] at h5 ⊢; rw [World.cell?_of_block (Below.heap_setCell _ _ _ _ h2)]; exact h5)
    | trivial
end

/-- What else is needed: the table's block and what lay before are kept. -/
def exY (b9 : Nat) (row : Option Nat) (k : Nat) : Prop := k = b9 ∨ row = some k
set_option maxRecDepth 100000 in
set_option maxHeartbeats 4000000 in
theorem yieldR_any (t : Tb) (me fr : Int) (a : Option Addr) (n cap : Nat) (near : List Nr) (w : World) (ht : TbOk w t) (hnear : NearOk w (.slice a n cap) near)
    (hu : t.uL ≤ 100000) (hg : t.gL ≤ 100000) :
    Calls Try.prog 19 #[.agg #[.slice t.uA t.uL t.uC, .slice t.gA t.gL t.gC, .slice t.kA t.kL t.kC], .int .i64 me, .slice a n cap, .int .i64 fr] w (YieldRes w t fr me near) := by
  obtain ⟨htu, htg, htk⟩ := ht
  have LU := Lib.hid htu.length.1
  have LG := Lib.hid htg.length.1
  go_enter Try.func19, Try.ntmps19
  go_wp2_with fail
  refine wp_name ?_
  intro W0 hW0
  have hY0 : YieldU w t [] W0 := by
    rw [hW0]
    refine ⟨none, 0, ?_, World.ownsRow_nil _ _ _ _, ?_, ?_, ?_, ?_⟩
    · simpa using Blk.new (((w.alloc _).alloc _)) _ _
    · exact ((Blk.new w _ _).alloc _).alloc _
    · simpa using (Blk.new (w.alloc _) _ _).alloc _
    · exact (((Below.refl _ w).alloc (Nat.le_refl _) _).alloc (by simp) _).alloc (by simp; omega) _
    · simp
  clear hW0
  go_loopw [10] (fun i wr => ∃ k : Nat, i = .int .i64 k ∧ k ≤ t.uL ∧ YieldU w t ((t.us.take k).filter (keepU fr me near)) wr) (fun i _ => t.uL - (intOf i).toNat)
  case atStart => exact ⟨0, rfl, by omega, by simpa using hY0⟩
  case round =>
    obtain ⟨k, rfl, hk, hY⟩ := hrel
    obtain ⟨L, hL⟩ : ∃ L, (t.us.take k).filter (keepU fr me near) = L := ⟨_, rfl⟩
    rw [hL] at hY
    have HL := Lib.hid hL
    obtain ⟨av, cv, b9, own, b4, b8, hB, hz⟩ := hY
    have HL100 : Hid (L.length ≤ 100000) := Lib.hid (by rw [← HL.out]; exact Nat.le_trans (List.length_filter_le _ _) (by rw [List.length_take]; omega))
    clear hL hY0
    have c4 := b4.cell 0
    have z4 := b4.lt
    simp only [tbV, List.getElem?_toArray, List.getElem?_cons_zero] at c4
    by_cases hlt : k < t.uL
    · obtain ⟨x, hxk⟩ : ∃ x, t.us[k]? = some x := ⟨t.us[k]'(by have := LU.out; simp at this; omega), List.getElem?_eq_getElem _⟩
      obtain ⟨bb, off, hix, d0, d1, d2, d3⟩ := us_at htu hxk
      have x0 := cell_on hB d0
      have x1 := cell_on hB d1
      have x2 := cell_on hB d2
      have x3 := cell_on hB d3
      have zx := cell_block x0
      have HXK := Lib.hid hxk
      clear hxk
      go_wp2_with fail
      refine (lost27 x me fr a n cap near wr (hnear.below hB (Nat.le_refl _))).mono ?_
      rintro e w2 ⟨rfl, hb2⟩
      have B9 := Lib.hid (b9.below hb2 b9.lt)
      have OW := Lib.hid (owns_below own hb2 (Nat.le_refl _))
      have B4 := Lib.hid (b4.below hb2 b4.lt)
      have B8 := Lib.hid (b8.below hb2 b8.lt)
      have hB2 := Lib.hid (hB.trans (hb2.mono hB.size))
      have HZ2 : Hid (w.heap.size + 3 ≤ w2.heap.size) := Lib.hid (by have := hb2.size; omega)
      clear b9 own b4 b8 hB hz hb2 c4 z4 x0 x1 x2 x3 zx
      rw [betU_keep]
      cases hkx : keepU fr me near x with
      | false =>
        have HK : Hid ((t.us.take (k + 1)).filter (keepU fr me near) = L) := Lib.hid (by rw [← HL.out]; exact filter_take_skip HXK.out hkx)
        clear hkx
        simp only [Bool.not_false]
        go_wp2_with fail
        go_roundw
        case rel => exact ⟨k + 1, rfl, by omega, by rw [HK.out]; exact ⟨av, cv, B9.out, OW.out, B4.out, B8.out, hB2.out, HZ2.out⟩⟩
        case measure => simp [intOf]; omega
      | true =>
        have HK : Hid ((t.us.take (k + 1)).filter (keepU fr me near) = L ++ [x]) := Lib.hid (by rw [← HL.out]; exact filter_take_keep HXK.out hkx)
        clear hkx
        simp only [Bool.not_true]
        go_wp2_with fail
        refine region_posts2 (ops := _) rfl (fun _ w' => Kept w2 (exY (w.heap.size + 1 + 1) (Value.slice av L.length cv).ownBlock) w') (pvY 32 (w.heap.size + 3) (w.heap.size + 1 + 1) w.heap.size 0 35 4 #[.slice av L.length cv, .slice none 0 0, .slice t.kA t.kL t.kC] av L.length cv (.slice t.uA t.uL t.uC) (.int .i64 (k : Int)) (.pointer (some ⟨bb, off + k * 4, none⟩)) (.agg (usV x).toArray) (L.map usV).flatten (usV x)) (slY 32) eatY [32, 33, 34, 35, 36, 37, 38, 39, 40, 41] 2 (by kernel_rfl) (by kernel_rfl) (by kernel_rfl) (by kernel_rfl) (fun j f g w h hp => pvY_congr h hp) ?_ ?_ ?_ ?_
        · exact ⟨rfl, rfl, rfl, Nat.le_refl _, fun _ _ _ => rfl⟩
        · intro j h1 h2
          have h1' : 11 ≤ j := h1
          have h2' : j < 13 := h2
          have h3 : j = 11 ∨ j = 12 := by omega
          have hdr : Below w2.heap.size w2 w2.drew := (Below.refl _ _).drew
          rcases h3 with rfl | rfl
          · exact B9.out.below hdr B9.out.lt
          · exact owns_below OW.out hdr (Nat.le_refl _)
        · intro i hi' KK a' w' done hO hS hcl hnd hout hdep hP hk'
          have o4 : a'.tmps[4]?.getD undef = .pointer (some ⟨w.heap.size, 0, none⟩) := hO 4 (by kernel_rfl)
          have o9 : a'.tmps[9]?.getD undef = .pointer (some ⟨w.heap.size + 1 + 1, 0, none⟩) := hO 9 (by kernel_rfl)
          have oi : a'.tmps[10]?.getD undef = .int .i64 (k : Int) := hO 10 (by kernel_rfl)
          have h99 : done 99 = false := hout 99 (by decide)
          have hP' : ∀ j, j < 13 → (j < 11 → done j = true) → done (eatY j) = false → pvY 32 (w.heap.size + 3) (w.heap.size + 1 + 1) w.heap.size 0 35 4 #[.slice av L.length cv, .slice none 0 0, .slice t.kA t.kL t.kC] av L.length cv (.slice t.uA t.uL t.uC) (.int .i64 (k : Int)) (.pointer (some ⟨bb, off + k * 4, none⟩)) (.agg (usV x).toArray) (L.map usV).flatten (usV x) j (slot a'.tmps) w' := hP
          clear hP
          have hi11 : i < 11 := hi'
          have hPe : ∀ j, j < 11 → depOf _ i j = true → done (eatY j) = false → pvY 32 (w.heap.size + 3) (w.heap.size + 1 + 1) w.heap.size 0 35 4 #[.slice av L.length cv, .slice none 0 0, .slice t.kA t.kL t.kC] av L.length cv (.slice t.uA t.uL t.uC) (.int .i64 (k : Int)) (.pointer (some ⟨bb, off + k * 4, none⟩)) (.agg (usV x).toArray) (L.map usV).flatten (usV x) j (slot a'.tmps) w' := fun j h1 h2 h3 => hP' j (by omega) (fun _ => hdep j h2) h3
          have hBw : Below w.heap.size w w' := hS.below hB2.out (by have := HZ2.out; omega) (fun k hk he => he.elim (fun e => by omega) (fun e => absurd (OW.out.lt k e).1 (by omega)))
          have hs2 : w2.heap.size ≤ w'.heap.size := hS.size
          have no : ∀ j, done j = true → depOf _ j i = true → False := fun j h1 h2 => by have := hcl j i h1 h2; rw [hnd] at this; cases this
          rcases i with _ | _ | _ | _ | _ | _ | _ | _ | _ | _ | _ | i
          · exact wpOp_val (v := (.pointer (some ⟨w.heap.size + 1 + 1, 0, none⟩))) (w' := w') rfl rfl (by go_simp) (hk' _ _ hS rfl (fun _ _ _ _ _ _ h => h))
          · have p0 : a'.tmps[32]?.getD undef = (.pointer (some ⟨w.heap.size + 1 + 1, 0, none⟩)) := hPe 0 (by omega) (by kernel_rfl) h99
            have n10 : done 10 = false := by
              cases h : done 10 with
              | false => rfl
              | true => exact (no 8 (hcl 10 8 h (by kernel_rfl)) (by kernel_rfl)).elim
            have pb : Blk w' (w.heap.size + 1 + 1) #[.slice av L.length cv, .slice none 0 0, .slice t.kA t.kL t.kC] 26 := hP' 11 (by omega) (by omega) n10
            have pc : w'.cell? ⟨w.heap.size + 1 + 1, 0, none⟩ = some (.slice av L.length cv) := pb.cell 0
            exact wpOp_val (v := (.slice av L.length cv)) (w' := w') rfl rfl (by go_simp) (hk' _ _ hS rfl (fun _ _ _ _ _ _ h => h))
          · exact wpOp_val (v := (.pointer (some ⟨w.heap.size, 0, none⟩))) (w' := w') rfl rfl (by go_simp) (hk' _ _ hS rfl (fun _ _ _ _ _ _ h => h))
          · have p2 : a'.tmps[34]?.getD undef = (.pointer (some ⟨w.heap.size, 0, none⟩)) := hPe 2 (by omega) (by kernel_rfl) h99
            have pc : w'.cell? ⟨w.heap.size, 0, none⟩ = some (.slice t.uA t.uL t.uC) := (hS.blk B4.out (fun he => he.elim (fun e => by omega) (fun e => absurd (OW.out.lt _ e).1 (by omega)))).cell 0
            exact wpOp_val (v := (.slice t.uA t.uL t.uC)) (w' := w') rfl rfl (by go_simp) (hk' _ _ hS rfl (fun _ _ _ _ _ _ h => h))
          · exact wpOp_val (v := (.int .i64 (k : Int))) (w' := w') rfl rfl (by go_simp) (hk' _ _ hS rfl (fun _ _ _ _ _ _ h => h))
          · have p3 : a'.tmps[35]?.getD undef = .slice t.uA t.uL t.uC := hPe 3 (by omega) (by kernel_rfl) h99
            have p4 : a'.tmps[36]?.getD undef = .int .i64 (k : Int) := hPe 4 (by omega) (by kernel_rfl) h99
            exact wpOp_val (v := (.pointer (some ⟨bb, off + k * 4, none⟩))) (w' := w') rfl rfl (by go_simp) (hk' _ _ hS rfl (fun _ _ _ _ _ _ h => h))
          · have p5 : a'.tmps[37]?.getD undef = .pointer (some ⟨bb, off + k * 4, none⟩) := hPe 5 (by omega) (by kernel_rfl) h99
            have x0 := cell_on hBw d0
            have x1 := cell_on hBw d1
            have x2 := cell_on hBw d2
            have x3 := cell_on hBw d3
            exact wpOp_val (v := (.agg #[.int .i64 x.1.1, .int .i64 x.1.2, .int .i64 x.2.1, .int .i64 x.2.2])) (w' := w') rfl rfl (by go_simp) (hk' _ _ hS rfl (fun _ _ _ _ _ _ h => h))
          · have p6 : a'.tmps[38]?.getD undef = .agg #[.int .i64 x.1.1, .int .i64 x.1.2, .int .i64 x.2.1, .int .i64 x.2.2] := hPe 6 (by omega) (by kernel_rfl) h99
            have n8 : done 8 = false := by
              cases h : done 8 with
              | false => rfl
              | true => exact (no 8 h (by kernel_rfl)).elim
            have pr : w'.ownsRow (w.heap.size + 3) 35 4 (.slice av L.length cv) L.length (L.map usV).flatten := hP' 12 (by omega) (by omega) n8
            refine wpOp_buildRow rfl rfl 22 35 4 _ (.tmp 38) rfl (usV x).toArray Try.underlying22 sz35 zero35 (by omega) (by omega) rfl ((eval_slot a' 38).trans p6) ?_
            have hb : Below w'.heap.size w' (w'.alloc (.cells (usV x).toArray 35)) := (Below.refl _ _).alloc (Nat.le_refl _) _
            refine hk' _ _ (hS.on hb) ?_ (fun j _ _ _ _ _ h => pvY_below hb h)
            exact ⟨w'.heap.size, rfl, by have := HZ2.out; omega, fun e => by have := (pr.lt _ e).2; omega, cells_new w' (usV x) 35⟩
          · have p1 : a'.tmps[33]?.getD undef = .slice av L.length cv := hPe 1 (by omega) (by kernel_rfl) h99
            obtain ⟨g7, p7, hg9, hgr, hgc⟩ := hPe 7 (by omega) (by kernel_rfl) h99
            have pr : w'.ownsRow (w.heap.size + 3) 35 4 (.slice av L.length cv) L.length (L.map usV).flatten := hP' 12 (by omega) (by omega) hnd
            obtain ⟨i0, hi, hz0, hz1, hz2⟩ := info_parts info35
            refine wpOp_append rfl rfl _ _ 22 rfl (w.heap.size + 3) 35 i0 (.agg #[.int .i64 0, .int .i64 0, .int .i64 0, .int .i64 0]) 4 32 Try.underlying22 hi hz0 hz1 hz2 rfl (by decide) (.slice av L.length cv) L.length _ ((eval_slot a' 33).trans p1) pr ⟨g7, 0, none⟩ 1 1 (usV x) ((eval_slot a' 39).trans p7) rfl hgc (usV_one x) (by unfold maxLen; have := HL100.out; omega) (by have := HL100.out; omega) (by have := HZ2.out; omega) ?_
            intro v' w'' hown hg _
            refine hk' _ _ (hS.grow hg (fun k e _ => .inr e)) hown ?_
            intro j hj h1 h2 h3 h4 h5
            refine pvY_grow hg ⟨h4, ?_, ?_⟩ (fun e => by have := (OW.out.lt _ e).1; omega) h5
            · rintro rfl; exact no 10 (h1 (by decide)) (by kernel_rfl)
            · rintro rfl; exact h3 rfl
          · exact wpOp_val (v := (.pointer (some ⟨w.heap.size + 1 + 1, 0, none⟩))) (w' := w') rfl rfl (by go_simp) (hk' _ _ hS rfl (fun _ _ _ _ _ _ h => h))
          · have p8 : w'.ownsRow (w.heap.size + 3) 35 4 (slot a'.tmps 40) (L.length + 1) ((L.map usV).flatten ++ usV x) := hPe 8 (by omega) (by kernel_rfl) hnd
            have p9 : a'.tmps[41]?.getD undef = (.pointer (some ⟨w.heap.size + 1 + 1, 0, none⟩)) := hPe 9 (by omega) (by kernel_rfl) h99
            have pb : Blk w' (w.heap.size + 1 + 1) #[.slice av L.length cv, .slice none 0 0, .slice t.kA t.kL t.kC] 26 := hP' 11 (by omega) (by omega) hnd
            obtain ⟨g8, c8, e8⟩ := ownsRow_succ p8
            have e8' : a'.tmps[40]?.getD undef = .slice (some ⟨g8, 0, none⟩) (L.length + 1) c8 := e8
            have pc : w'.cell? ⟨w.heap.size + 1 + 1, 0, none⟩ = some (.slice av L.length cv) := pb.cell 0
            have pf : w'.frozen? ⟨w.heap.size + 1 + 1, 0, none⟩ = false := pb.frozen 0
            refine wpOp_skip (w' := w'.setCell ⟨w.heap.size + 1 + 1, 0, none⟩ (.slice (some ⟨g8, 0, none⟩) (L.length + 1) c8)) rfl rfl (by go_simp) ?_
            refine hk' undef _ (hS.setCell (.inl rfl)) ⟨?_, ?_⟩ ?_
            · show Blk _ _ ((#[.slice av L.length cv, .slice none 0 0, .slice t.kA t.kL t.kC] : Array Value).setIfInBounds 0 (slot a'.tmps 40)) 26
              rw [e8]
              exact pb.set 0 _
            · exact owns_set p8 (by omega)
            · intro j hj h1 h2 h3 h4 h5
              refine pvY_set _ (by omega) ⟨?_, h4, ?_⟩ h5
              · rintro rfl; exact h3 rfl
              · rintro rfl; exact h3 rfl
          · omega
        · intro s w3 hS3 hP3
          obtain ⟨hblk, hown⟩ := hP3 10 (by decide) (by decide)
          have hown' : w3.ownsRow (w.heap.size + 3) 35 4 (slot s 40) (L.length + 1) ((L.map usV).flatten ++ usV x) := hown
          obtain ⟨g8, c8, e8⟩ := ownsRow_succ hown'
          have hblk' : Blk w3 (w.heap.size + 1 + 1) _ 26 := hblk
          have e8s : slot s (32 + 8) = .slice (some ⟨g8, 0, none⟩) (L.length + 1) c8 := e8
          rw [e8s] at hblk'
          rw [e8] at hown'
          have hB3 := hS3.below hB2.out (by have := HZ2.out; omega) (fun k hk he => he.elim (fun e => by omega) (fun e => absurd (OW.out.lt k e).1 (by omega)))
          have nb4 : ¬ exY (w.heap.size + 1 + 1) (Value.slice av L.length cv).ownBlock w.heap.size := by
            rintro (h | h)
            · omega
            · exact absurd (OW.out.lt _ h).1 (by omega)
          have nb8 : ¬ exY (w.heap.size + 1 + 1) (Value.slice av L.length cv).ownBlock (w.heap.size + 1) := by
            rintro (h | h)
            · omega
            · exact absurd (OW.out.lt _ h).1 (by omega)
          have hY3 : YieldU w t (L ++ [x]) w3 := by
            refine ⟨some ⟨g8, 0, none⟩, c8, ?_, ?_, hS3.blk B4.out nb4, hS3.blk B8.out nb8, hB3, by have := hS3.size; have := HZ2.out; omega⟩
            · rw [List.length_append]
              exact hblk'
            · rw [List.map_append, List.flatten_append, List.length_append]
              simp only [List.map_cons, List.map_nil, List.flatten_cons, List.flatten_nil, List.append_nil, List.length_cons, List.length_nil]
              exact hown'
          have HY3 := Lib.hid hY3
          clear hS3 hP3 hblk hown hown' hblk' e8 e8s hB3 nb4 nb8 hY3
          simp only [puts, List.foldl_cons, List.foldl_nil, List.setIfInBounds_toArray, List.set_cons_zero, List.set_cons_succ]
          go_wp2_with fail
          go_roundw
          case rel => exact ⟨k + 1, rfl, by omega, by rw [HK.out]; exact HY3.out⟩
          case measure => simp [intOf]; omega
    · have hL : L = t.us.filter (keepU fr me near) := by
        rw [← HL.out, List.take_of_length_le (by have := LU.out; simp at this; omega)]
      have HLU := Lib.hid hL
      clear hL HL c4
      have hY : YieldG w t wr.heap.size L [] wr := ⟨av, cv, none, 0, b9, own, fun g hg => (own.lt g hg).2, World.ownsRow_nil _ _ _ _, b4, b8, hB, hz, Nat.le_refl _⟩
      have c4 := b4.cell 0
      simp only [tbV, List.getElem?_toArray, List.getElem?_cons_zero] at c4
      clear b9 own b4 b8 hB hz
      go_wp2_with fail
      obtain ⟨M, hM⟩ : ∃ M, wr.heap.size = M := ⟨_, rfl⟩
      rw [hM] at hY
      clear hM c4 z4
      obtain ⟨wo, rfl⟩ : ∃ wo : World, wo = wr := ⟨_, rfl⟩
      go_loopw [11] (fun i wr => ∃ k : Nat, i = .int .i64 k ∧ k ≤ t.gL ∧ YieldG w t M L ((t.gs.take k).filter (keepG fr near)) wr) (fun i _ => t.gL - (intOf i).toNat)
      case atStart => exact ⟨0, rfl, by omega, by simpa using hY⟩
      case round =>
        clear hY hlt hk HL100
        obtain ⟨k, rfl, hk, hY⟩ := hrel
        obtain ⟨K, hK⟩ : ∃ K, (t.gs.take k).filter (keepG fr near) = K := ⟨_, rfl⟩
        rw [hK] at hY
        have HK0 := Lib.hid hK
        obtain ⟨av, cv, ag, cg, b9, own, hlM, owng, b4, b8, hB, hM3, hM4⟩ := hY
        have HL100 : Hid (K.length ≤ 100000) := Lib.hid (by rw [← HK0.out]; exact Nat.le_trans (List.length_filter_le _ _) (by rw [List.length_take]; omega))
        clear hK
        have c4 := b4.cell 1
        have z4 := b4.lt
        simp only [tbV, List.getElem?_toArray, List.getElem?_cons_zero, List.getElem?_cons_succ] at c4
        by_cases hlt : k < t.gL
        · obtain ⟨x, hxk⟩ : ∃ x, t.gs[k]? = some x := ⟨t.gs[k]'(by have := LG.out; simp at this; omega), List.getElem?_eq_getElem _⟩
          obtain ⟨bb, off, hix, d0, d1, d2, d3, d4⟩ := gr_at htg hxk
          have x0 := cell_on hB d0
          have x1 := cell_on hB d1
          have x2 := cell_on hB d2
          have x3 := cell_on hB d3
          have x4 := cell_on hB d4
          have zx := cell_block x0
          have HXK := Lib.hid hxk
          clear hxk
          go_wp2_with fail
          refine (void28 x fr a n cap near wr (hnear.below hB (Nat.le_refl _))).mono ?_
          rintro e w2 ⟨rfl, hb2⟩
          have B9 := Lib.hid (b9.below hb2 b9.lt)
          have OU := Lib.hid (owns_below own hb2 (Nat.le_refl _))
          have OW := Lib.hid (owns_below owng hb2 (Nat.le_refl _))
          have B4 := Lib.hid (b4.below hb2 b4.lt)
          have B8 := Lib.hid (b8.below hb2 b8.lt)
          have HLM := Lib.hid hlM
          have hB2 := Lib.hid (hB.trans (hb2.mono hB.size))
          have HZ2 : Hid (w.heap.size + 3 ≤ w2.heap.size ∧ M ≤ w2.heap.size) := Lib.hid (by have := hb2.size; omega)
          clear b9 own owng b4 b8 hB hlM hb2 c4 z4 x0 x1 x2 x3 x4 zx
          rw [betG_keep]
          cases hkx : keepG fr near x with
          | false =>
            have HK : Hid ((t.gs.take (k + 1)).filter (keepG fr near) = K) := Lib.hid (by rw [← HK0.out]; exact filter_take_skip HXK.out hkx)
            clear hkx
            simp only [Bool.not_false]
            go_wp2_with fail
            go_roundw
            case rel => exact ⟨k + 1, rfl, by omega, by rw [HK.out]; exact ⟨av, cv, ag, cg, B9.out, OU.out, HLM.out, OW.out, B4.out, B8.out, hB2.out, hM3, HZ2.out.2⟩⟩
            case measure => simp [intOf]; omega
          | true =>
            have HK : Hid ((t.gs.take (k + 1)).filter (keepG fr near) = K ++ [x]) := Lib.hid (by rw [← HK0.out]; exact filter_take_keep HXK.out hkx)
            clear hkx
            simp only [Bool.not_true]
            go_wp2_with fail
            refine region_posts2 (ops := _) rfl (fun _ w' => Kept w2 (exY (w.heap.size + 1 + 1) (Value.slice ag K.length cg).ownBlock) w') (pvY 58 (M) (w.heap.size + 1 + 1) w.heap.size 1 38 5 #[.slice av L.length cv, .slice ag K.length cg, .slice t.kA t.kL t.kC] ag K.length cg (.slice t.gA t.gL t.gC) (.int .i64 (k : Int)) (.pointer (some ⟨bb, off + k * 5, none⟩)) (.agg (grV x).toArray) (K.map grV).flatten (grV x)) (slY 58) eatY [58, 59, 60, 61, 62, 63, 64, 65, 66, 67] 2 (by kernel_rfl) (by kernel_rfl) (by kernel_rfl) (by kernel_rfl) (fun j f g w h hp => pvY_congr h hp) ?_ ?_ ?_ ?_
            · exact ⟨rfl, rfl, rfl, Nat.le_refl _, fun _ _ _ => rfl⟩
            · intro j h1 h2
              have h1' : 11 ≤ j := h1
              have h2' : j < 13 := h2
              have h3 : j = 11 ∨ j = 12 := by omega
              have hdr : Below w2.heap.size w2 w2.drew := (Below.refl _ _).drew
              rcases h3 with rfl | rfl
              · exact B9.out.below hdr B9.out.lt
              · exact owns_below OW.out hdr (Nat.le_refl _)
            · intro i hi' KK a' w' done hO hS hcl hnd hout hdep hP hk'
              have o4 : a'.tmps[4]?.getD undef = .pointer (some ⟨w.heap.size, 0, none⟩) := hO 4 (by kernel_rfl)
              have o9 : a'.tmps[9]?.getD undef = .pointer (some ⟨w.heap.size + 1 + 1, 0, none⟩) := hO 9 (by kernel_rfl)
              have oi : a'.tmps[11]?.getD undef = .int .i64 (k : Int) := hO 11 (by kernel_rfl)
              have h99 : done 99 = false := hout 99 (by decide)
              have hP' : ∀ j, j < 13 → (j < 11 → done j = true) → done (eatY j) = false → pvY 58 (M) (w.heap.size + 1 + 1) w.heap.size 1 38 5 #[.slice av L.length cv, .slice ag K.length cg, .slice t.kA t.kL t.kC] ag K.length cg (.slice t.gA t.gL t.gC) (.int .i64 (k : Int)) (.pointer (some ⟨bb, off + k * 5, none⟩)) (.agg (grV x).toArray) (K.map grV).flatten (grV x) j (slot a'.tmps) w' := hP
              clear hP
              have hi11 : i < 11 := hi'
              have hPe : ∀ j, j < 11 → depOf _ i j = true → done (eatY j) = false → pvY 58 (M) (w.heap.size + 1 + 1) w.heap.size 1 38 5 #[.slice av L.length cv, .slice ag K.length cg, .slice t.kA t.kL t.kC] ag K.length cg (.slice t.gA t.gL t.gC) (.int .i64 (k : Int)) (.pointer (some ⟨bb, off + k * 5, none⟩)) (.agg (grV x).toArray) (K.map grV).flatten (grV x) j (slot a'.tmps) w' := fun j h1 h2 h3 => hP' j (by omega) (fun _ => hdep j h2) h3
              have hBw : Below w.heap.size w w' := hS.below hB2.out (by have := HZ2.out; omega) (fun k hk he => he.elim (fun e => by omega) (fun e => absurd (OW.out.lt k e).1 (by omega)))
              have hs2 : w2.heap.size ≤ w'.heap.size := hS.size
              have no : ∀ j, done j = true → depOf _ j i = true → False := fun j h1 h2 => by have := hcl j i h1 h2; rw [hnd] at this; cases this
              rcases i with _ | _ | _ | _ | _ | _ | _ | _ | _ | _ | _ | i
              · exact wpOp_val (v := (.pointer (some ⟨w.heap.size + 1 + 1, 1, none⟩))) (w' := w') rfl rfl (by go_simp) (hk' _ _ hS rfl (fun _ _ _ _ _ _ h => h))
              · have p0 : a'.tmps[58]?.getD undef = (.pointer (some ⟨w.heap.size + 1 + 1, 1, none⟩)) := hPe 0 (by omega) (by kernel_rfl) h99
                have n10 : done 10 = false := by
                  cases h : done 10 with
                  | false => rfl
                  | true => exact (no 8 (hcl 10 8 h (by kernel_rfl)) (by kernel_rfl)).elim
                have pb : Blk w' (w.heap.size + 1 + 1) #[.slice av L.length cv, .slice ag K.length cg, .slice t.kA t.kL t.kC] 26 := hP' 11 (by omega) (by omega) n10
                have pc : w'.cell? ⟨w.heap.size + 1 + 1, 1, none⟩ = some (.slice ag K.length cg) := pb.cell 1
                exact wpOp_val (v := (.slice ag K.length cg)) (w' := w') rfl rfl (by go_simp) (hk' _ _ hS rfl (fun _ _ _ _ _ _ h => h))
              · exact wpOp_val (v := (.pointer (some ⟨w.heap.size, 1, none⟩))) (w' := w') rfl rfl (by go_simp) (hk' _ _ hS rfl (fun _ _ _ _ _ _ h => h))
              · have p2 : a'.tmps[60]?.getD undef = (.pointer (some ⟨w.heap.size, 1, none⟩)) := hPe 2 (by omega) (by kernel_rfl) h99
                have pc : w'.cell? ⟨w.heap.size, 1, none⟩ = some (.slice t.gA t.gL t.gC) := (hS.blk B4.out (fun he => he.elim (fun e => by omega) (fun e => absurd (OW.out.lt _ e).1 (by omega)))).cell 1
                exact wpOp_val (v := (.slice t.gA t.gL t.gC)) (w' := w') rfl rfl (by go_simp) (hk' _ _ hS rfl (fun _ _ _ _ _ _ h => h))
              · exact wpOp_val (v := (.int .i64 (k : Int))) (w' := w') rfl rfl (by go_simp) (hk' _ _ hS rfl (fun _ _ _ _ _ _ h => h))
              · have p3 : a'.tmps[61]?.getD undef = .slice t.gA t.gL t.gC := hPe 3 (by omega) (by kernel_rfl) h99
                have p4 : a'.tmps[62]?.getD undef = .int .i64 (k : Int) := hPe 4 (by omega) (by kernel_rfl) h99
                exact wpOp_val (v := (.pointer (some ⟨bb, off + k * 5, none⟩))) (w' := w') rfl rfl (by go_simp) (hk' _ _ hS rfl (fun _ _ _ _ _ _ h => h))
              · have p5 : a'.tmps[63]?.getD undef = .pointer (some ⟨bb, off + k * 5, none⟩) := hPe 5 (by omega) (by kernel_rfl) h99
                have x0 := cell_on hBw d0
                have x1 := cell_on hBw d1
                have x2 := cell_on hBw d2
                have x3 := cell_on hBw d3
                have x4 := cell_on hBw d4
                exact wpOp_val (v := (.agg #[.int .i64 x.1.1, .int .i64 x.1.2, .int .i64 x.2.1, .int .i64 x.2.2.1, .int .i64 x.2.2.2])) (w' := w') rfl rfl (by go_simp) (hk' _ _ hS rfl (fun _ _ _ _ _ _ h => h))
              · have p6 : a'.tmps[64]?.getD undef = .agg #[.int .i64 x.1.1, .int .i64 x.1.2, .int .i64 x.2.1, .int .i64 x.2.2.1, .int .i64 x.2.2.2] := hPe 6 (by omega) (by kernel_rfl) h99
                have n8 : done 8 = false := by
                  cases h : done 8 with
                  | false => rfl
                  | true => exact (no 8 h (by kernel_rfl)).elim
                have pr : w'.ownsRow (M) 38 5 (.slice ag K.length cg) K.length (K.map grV).flatten := hP' 12 (by omega) (by omega) n8
                refine wpOp_buildRow rfl rfl 23 38 5 _ (.tmp 64) rfl (grV x).toArray Try.underlying23 sz38 zero38 (by omega) (by omega) rfl ((eval_slot a' 64).trans p6) ?_
                have hb : Below w'.heap.size w' (w'.alloc (.cells (grV x).toArray 38)) := (Below.refl _ _).alloc (Nat.le_refl _) _
                refine hk' _ _ (hS.on hb) ?_ (fun j _ _ _ _ _ h => pvY_below hb h)
                exact ⟨w'.heap.size, rfl, by have := HZ2.out; omega, fun e => by have := (pr.lt _ e).2; omega, cells_new w' (grV x) 38⟩
              · have p1 : a'.tmps[59]?.getD undef = .slice ag K.length cg := hPe 1 (by omega) (by kernel_rfl) h99
                obtain ⟨g7, p7, hg9, hgr, hgc⟩ := hPe 7 (by omega) (by kernel_rfl) h99
                have pr : w'.ownsRow (M) 38 5 (.slice ag K.length cg) K.length (K.map grV).flatten := hP' 12 (by omega) (by omega) hnd
                obtain ⟨i0, hi, hz0, hz1, hz2⟩ := info_parts info38
                refine wpOp_append rfl rfl _ _ 23 rfl (M) 38 i0 (.agg #[.int .i64 0, .int .i64 0, .int .i64 0, .int .i64 0, .int .i64 0]) 5 40 Try.underlying23 hi hz0 hz1 hz2 rfl (by decide) (.slice ag K.length cg) K.length _ ((eval_slot a' 59).trans p1) pr ⟨g7, 0, none⟩ 1 1 (grV x) ((eval_slot a' 65).trans p7) rfl hgc (grV_one x) (by unfold maxLen; have := HL100.out; omega) (by have := HL100.out; omega) (by have := HZ2.out; omega) ?_
                intro v' w'' hown hg _
                refine hk' _ _ (hS.grow hg (fun k e _ => .inr e)) hown ?_
                intro j hj h1 h2 h3 h4 h5
                refine pvY_grow hg ⟨h4, ?_, ?_⟩ (fun e => by have := (OW.out.lt _ e).1; omega) h5
                · rintro rfl; exact no 10 (h1 (by decide)) (by kernel_rfl)
                · rintro rfl; exact h3 rfl
              · exact wpOp_val (v := (.pointer (some ⟨w.heap.size + 1 + 1, 1, none⟩))) (w' := w') rfl rfl (by go_simp) (hk' _ _ hS rfl (fun _ _ _ _ _ _ h => h))
              · have p8 : w'.ownsRow (M) 38 5 (slot a'.tmps 66) (K.length + 1) ((K.map grV).flatten ++ grV x) := hPe 8 (by omega) (by kernel_rfl) hnd
                have p9 : a'.tmps[67]?.getD undef = (.pointer (some ⟨w.heap.size + 1 + 1, 1, none⟩)) := hPe 9 (by omega) (by kernel_rfl) h99
                have pb : Blk w' (w.heap.size + 1 + 1) #[.slice av L.length cv, .slice ag K.length cg, .slice t.kA t.kL t.kC] 26 := hP' 11 (by omega) (by omega) hnd
                obtain ⟨g8, c8, e8⟩ := ownsRow_succ p8
                have e8' : a'.tmps[66]?.getD undef = .slice (some ⟨g8, 0, none⟩) (K.length + 1) c8 := e8
                have pc : w'.cell? ⟨w.heap.size + 1 + 1, 1, none⟩ = some (.slice ag K.length cg) := pb.cell 1
                have pf : w'.frozen? ⟨w.heap.size + 1 + 1, 1, none⟩ = false := pb.frozen 1
                refine wpOp_skip (w' := w'.setCell ⟨w.heap.size + 1 + 1, 1, none⟩ (.slice (some ⟨g8, 0, none⟩) (K.length + 1) c8)) rfl rfl (by go_simp) ?_
                refine hk' undef _ (hS.setCell (.inl rfl)) ⟨?_, ?_⟩ ?_
                · show Blk _ _ ((#[.slice av L.length cv, .slice ag K.length cg, .slice t.kA t.kL t.kC] : Array Value).setIfInBounds 1 (slot a'.tmps 66)) 26
                  rw [e8]
                  exact pb.set 1 _
                · exact owns_set p8 (by omega)
                · intro j hj h1 h2 h3 h4 h5
                  refine pvY_set _ (by omega) ⟨?_, h4, ?_⟩ h5
                  · rintro rfl; exact h3 rfl
                  · rintro rfl; exact h3 rfl
              · omega
            · intro s w3 hS3 hP3
              obtain ⟨hblk, hown⟩ := hP3 10 (by decide) (by decide)
              have hown' : w3.ownsRow (M) 38 5 (slot s 66) (K.length + 1) ((K.map grV).flatten ++ grV x) := hown
              obtain ⟨g8, c8, e8⟩ := ownsRow_succ hown'
              have hblk' : Blk w3 (w.heap.size + 1 + 1) _ 26 := hblk
              have e8s : slot s (58 + 8) = .slice (some ⟨g8, 0, none⟩) (K.length + 1) c8 := e8
              rw [e8s] at hblk'
              rw [e8] at hown'
              have hB3 := hS3.below hB2.out (by have := HZ2.out; omega) (fun k hk he => he.elim (fun e => by omega) (fun e => absurd (OW.out.lt k e).1 (by omega)))
              have nb4 : ¬ exY (w.heap.size + 1 + 1) (Value.slice ag K.length cg).ownBlock w.heap.size := by
                rintro (h | h)
                · omega
                · exact absurd (OW.out.lt _ h).1 (by omega)
              have nb8 : ¬ exY (w.heap.size + 1 + 1) (Value.slice ag K.length cg).ownBlock (w.heap.size + 1) := by
                rintro (h | h)
                · omega
                · exact absurd (OW.out.lt _ h).1 (by omega)
              have hou : w3.ownsRow (w.heap.size + 3) 35 4 (.slice av L.length cv) L.length (L.map usV).flatten := by
                rcases OU.out with ⟨h1, h2 | ⟨g, cap, cur, hv, hg, hh, r1, r2, r3, r4⟩⟩
                · exact ⟨h1, .inl h2⟩
                · refine ⟨h1, .inr ⟨g, cap, cur, hv, hg, ?_, r1, r2, r3, r4⟩⟩
                  have hgM := HLM.out g (by rw [hv]; rfl)
                  have hlt2 := (Array.getElem?_eq_some_iff.1 hh).1
                  refine (hS3.block g hlt2 ?_).trans hh
                  rintro (h | h)
                  · omega
                  · exact absurd (OW.out.lt _ h).1 (by omega)
              have hY3 : YieldG w t M L (K ++ [x]) w3 := by
                refine ⟨av, cv, some ⟨g8, 0, none⟩, c8, ?_, hou, HLM.out, ?_, hS3.blk B4.out nb4, hS3.blk B8.out nb8, hB3, hM3, by have := hS3.size; have := HZ2.out; omega⟩
                · rw [List.length_append]
                  exact hblk'
                · rw [List.map_append, List.flatten_append, List.length_append]
                  simp only [List.map_cons, List.map_nil, List.flatten_cons, List.flatten_nil, List.append_nil, List.length_cons, List.length_nil]
                  exact hown'
              have HY3 := Lib.hid hY3
              clear hS3 hP3 hblk hown hown' hblk' e8 e8s hB3 nb4 nb8 hY3 hou
              simp only [puts, List.foldl_cons, List.foldl_nil, List.setIfInBounds_toArray, List.set_cons_zero, List.set_cons_succ]
              go_wp2_with fail
              go_roundw
              case rel => exact ⟨k + 1, rfl, by omega, by rw [HK.out]; exact HY3.out⟩
              case measure => simp [intOf]; omega
        · have hKe : K = t.gs.filter (keepG fr near) := by
            rw [← HK0.out, List.take_of_length_le (by have := LG.out; simp at this; omega)]
          have e0 := b9.cell 0
          have e1 := b9.cell 1
          have e2 := b9.cell 2
          have q0 := b8.cell 0
          have q1 := b8.cell 1
          have q2 := b8.cell 2
          have f0 := b8.frozen 0
          have f1 := b8.frozen 1
          have f2 := b8.frozen 2
          simp only [List.getElem?_toArray, List.getElem?_cons_zero, List.getElem?_cons_succ] at e0 e1 e2 q0 q1 q2
          have HKE := Lib.hid hKe
          have OU := Lib.hid own
          have OW := Lib.hid owng
          have B9 := Lib.hid b9
          have HB := Lib.hid hB
          clear hKe own owng b9 b4 hlM hB
          have B8 := Lib.hid b8
          clear b8
          go_wp2_with fail
          have bF := ((B8.out.set 0 (.slice av L.length cv)).set 1 (.slice ag K.length cg)).set 2 (.slice t.kA t.kL t.kC)
          have r0 := bF.cell 0
          have r1 := bF.cell 1
          have r2 := bF.cell 2
          have hBF : Below w.heap.size w (((wr.setCell ⟨w.heap.size + 1, 0, none⟩ (.slice av L.length cv)).setCell ⟨w.heap.size + 1, 1, none⟩ (.slice ag K.length cg)).setCell ⟨w.heap.size + 1, 2, none⟩ (.slice t.kA t.kL t.kC)) :=
            ((HB.out.setCell (by simp) _).setCell (by simp) _).setCell (by simp) _
          have oU := owns_set (b := w.heap.size + 1) (j := 2) (u := .slice t.kA t.kL t.kC) (owns_set (b := w.heap.size + 1) (j := 1) (u := .slice ag K.length cg) (owns_set (b := w.heap.size + 1) (j := 0) (u := .slice av L.length cv) OU.out (by omega)) (by omega)) (by omega)
          have oG := owns_set (b := w.heap.size + 1) (j := 2) (u := .slice t.kA t.kL t.kC) (owns_set (b := w.heap.size + 1) (j := 1) (u := .slice ag K.length cg) (owns_set (b := w.heap.size + 1) (j := 0) (u := .slice av L.length cv) OW.out (by omega)) (by omega)) (by omega)
          refine bodyPost_ret (v := .agg #[.slice av L.length cv, .slice ag K.length cg, .slice t.kA t.kL t.kC]) ?_ rfl ⟨⟨av, L.length, cv, ag, K.length, cg, t.kA, t.kL, t.kC, L, K, t.ks⟩, rfl, ⟨?_, ?_, ?_⟩, HLU.out, HKE.out, rfl, hBF⟩
          · simp only [List.getElem?_toArray, List.getElem?_cons_zero, List.getElem?_cons_succ, List.setIfInBounds_toArray, List.set_cons_zero, List.set_cons_succ] at r0 r1 r2
            simp [results, Try.results19, go_sem, r0, r1, r2]
          · exact owns_rows oU (L.map usV) (by simp) rfl (by intro cs h; obtain ⟨x, _, rfl⟩ := List.mem_map.1 h; rfl)
          · exact owns_rows oG (K.map grV) (by simp) rfl (by intro cs h; obtain ⟨x, _, rfl⟩ := List.mem_map.1 h; rfl)
          · exact htk.below hBF (Nat.le_refl _)

end Go.Proofs.Ytadiocpcpjbjpaa
